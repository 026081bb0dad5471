/- Joined by merge.py from: SchM SchN SchO JobA1 JobA2 JobA3 JobA4 JobA5 JobA6 JobA7 JobA8. -/
import Derived.Test.YtgijekhlbkfanaaJobC
import Derived.Test.YtgijekhlbkfanaaJobQ6
import Derived.BigQuiet
import Derived.BigRegion
import Derived.Shelf.RegionOpenPlain
import Derived.Test.YtgijekhlbkfanaaJobQ5
import Derived.Test.YtgijekhlbkfanaaJobP
import Derived.Test.YtgijekhlbkfanaaJobF
import Derived.Laws.EntriesVeiled
set_option linter.unusedSimpArgs false
set_option linter.unusedVariables false
namespace Go.Proofs.Ytgijekhlbkfanaa

def mnA (l : List Tk) (i : Nat) : Int := (tkA l i).mn
def sN (f : Nat → Int) : Nat → Int
  | 0 => 0
  | k + 1 => sN f k + f k
theorem sN_congr {f g : Nat → Int} : ∀ {n : Nat}, (∀ k, k < n → f k = g k) → sN f n = sN g n
  | 0, _ => rfl
  | n + 1, h => by show sN f n + f n = sN g n + g n; rw [sN_congr fun k hk => h k (by omega), h n (by omega)]
theorem sN_le {f g : Nat → Int} : ∀ {n : Nat}, (∀ k, k < n → f k ≤ g k) → sN f n ≤ sN g n
  | 0, _ => Int.le_refl _
  | n + 1, h => by show sN f n + f n ≤ sN g n + g n; have := sN_le (n := n) fun k hk => h k (by omega); have := h n (by omega); omega
theorem sN_zero {f : Nat → Int} {n : Nat} (h : ∀ k, k < n → f k = 0) : sN f n = 0 := by
  rw [sN_congr h]
  induction n with
  | zero => rfl
  | succ n ih => show sN _ n + 0 = 0; rw [ih fun k hk => h k (by omega)]; rfl
theorem sN_nonneg {f : Nat → Int} {n : Nat} (h : ∀ k, k < n → 0 ≤ f k) : 0 ≤ sN f n := by
  have := sN_le (f := fun _ => 0) (g := f) (n := n) h
  rw [sN_zero (n := n) (fun _ _ => rfl)] at this; exact this
theorem sN_add (f g : Nat → Int) : ∀ n, sN (fun k => f k + g k) n = sN f n + sN g n
  | 0 => rfl
  | n + 1 => by show sN _ n + (f n + g n) = sN f n + f n + (sN g n + g n); rw [sN_add f g n]; omega
theorem sN_mul (c : Int) (f : Nat → Int) : ∀ n, sN (fun k => c * f k) n = c * sN f n
  | 0 => by show (0:Int) = c * 0; omega
  | n + 1 => by show sN _ n + c * f n = c * (sN f n + f n); rw [sN_mul c f n, Int.mul_add]
theorem sN_one (f : Nat → Int) {i n : Nat} (hi : i < n) (hb : ∀ k, k < n → 0 ≤ f k) : f i ≤ sN f n := by
  induction n with
  | zero => omega
  | succ n ih =>
    show f i ≤ sN f n + f n
    by_cases h : i = n
    · subst h; have := sN_nonneg (n := i) (f := f) (fun k hk => hb k (by omega)); omega
    · have := ih (by omega) (fun k hk => hb k (by omega)); have := hb n (by omega); omega
theorem sN_upd {f g : Nat → Int} {i : Nat} {d : Int} {n : Nat} (hi : i < n) (h : ∀ k, k ≠ i → g k = f k) (h2 : g i = f i + d) : sN g n = sN f n + d := by
  induction n with
  | zero => omega
  | succ n ih =>
    show sN g n + g n = sN f n + f n + d
    by_cases e : i = n
    · subst e; rw [sN_congr (fun k (hk : k < i) => h k (by omega)), h2]; omega
    · rw [ih (by omega), h n (fun hh => e hh.symm)]; omega
theorem sN_swap (f : Nat → Nat → Int) (m : Nat) : ∀ n, sN (fun j => sN (fun e => f e j) m) n = sN (fun e => sN (f e) n) m
  | 0 => by
    show (0 : Int) = sN (fun e => 0) m
    rw [sN_zero (fun _ _ => rfl)]
  | n + 1 => by
    show sN _ n + sN (fun e => f e n) m = sN (fun e => sN (f e) n + f e n) m
    rw [sN_swap f m n, ← sN_add]
/-- Days of a stretch, one by one. -/
theorem sN_stretch {o dy c : Int} (hc : 0 ≤ o) (hd : 0 ≤ dy) : ∀ (D : Nat), o + dy ≤ D → sN (fun e => if o ≤ (e : Int) ∧ (e : Int) < o + dy then c else 0) D = c * dy := by
  have key : ∀ D : Nat, sN (fun e => if o ≤ (e : Int) ∧ (e : Int) < o + dy then c else 0) D = c * (if (D : Int) ≤ o then 0 else if (D : Int) ≤ o + dy then D - o else dy) := by
    intro D
    induction D with
    | zero => show (0:Int) = c * (if ((0 : Nat) : Int) ≤ o then 0 else _); rw [if_pos (by omega)]; simp
    | succ D ih =>
      show sN _ D + (if o ≤ (D : Int) ∧ (D : Int) < o + dy then c else 0) = _
      rw [ih]
      by_cases h1 : ((D + 1 : Nat) : Int) ≤ o
      · rw [if_pos (show (D : Int) ≤ o by omega), if_neg (by omega), if_pos h1]; simp
      · rw [if_neg h1]
        by_cases h2 : ((D + 1 : Nat) : Int) ≤ o + dy
        · rw [if_pos h2, if_pos (show o ≤ (D : Int) ∧ (D : Int) < o + dy by omega)]
          by_cases h3 : (D : Int) ≤ o
          · rw [if_pos h3]
            have : ((D + 1 : Nat) : Int) - o = 1 := by omega
            rw [this]; omega
          · rw [if_neg h3, if_pos (show (D : Int) ≤ o + dy by omega)]
            have : ((D + 1 : Nat) : Int) - o = (D - o) + 1 := by omega
            rw [this, Int.mul_add]; omega
        · rw [if_neg h2, if_neg (show ¬ (o ≤ (D : Int) ∧ (D : Int) < o + dy) by omega)]
          by_cases h3 : (D : Int) ≤ o
          · have h4 : dy = 0 := by omega
            rw [if_pos h3, h4]; simp
          · rw [if_neg h3]
            by_cases h5 : (D : Int) ≤ o + dy
            · rw [if_pos h5]
              have : (D : Int) - o = dy := by omega
              rw [this]; omega
            · rw [if_neg h5]; omega
  intro D hD
  rw [key D]
  by_cases h1 : (D : Int) ≤ o
  · have : dy = 0 := by omega
    rw [if_pos h1, this]
  · rw [if_neg h1]
    by_cases h2 : (D : Int) ≤ o + dy
    · rw [if_pos h2]
      have : (D : Int) - o = dy := by omega
      rw [this]
    · rw [if_neg h2]

/-! ### a day of the listing -/
/-- Men of those that began and have not ended. -/
def rnF (l : List Tk) (out : List Int) (B : List Nat) (d : Int) (k : Nat) : Int := if B.contains k && decide (d < gI out k + dyA l k) then mnA l k else 0
def runL (l : List Tk) (out : List Int) (B : List Nat) (d : Int) : Int := sN (rnF l out B d) l.length
def rdD (l : List Tk) (out : List Int) (B : List Nat) (d : Int) (i : Nat) : Bool := !B.contains i && (afs l i).all fun a => B.contains a && decide (gI out a + dyA l a ≤ d)
abbrev Sc := List Int × List Nat
def stR (l : List Tk) (most d : Int) (s : Sc) (i : Nat) : Sc := if rdD l s.1 s.2 d i && decide (mnA l i + runL l s.1 s.2 d ≤ most) then (s.1.set i d, s.2 ++ [i]) else s
def dayR (l : List Tk) (most : Int) (tr : List Nat) (d : Int) (s : Sc) : Sc := tr.foldl (stR l most d) s
def schK (l : List Tk) (most : Int) (tr : List Nat) : Nat → Sc
  | 0 => (List.replicate l.length 0, [])
  | d + 1 => dayR l most tr d (schK l most tr d)
structure Day (l : List Tk) (most d : Int) (s : Sc) (pre : List Nat) (t : Sc) : Prop where
  len : t.1.length = s.1.length
  nd : t.2.Nodup
  lt : ∀ i ∈ t.2, i < l.length
  old : ∀ i ∈ s.2, i ∈ t.2
  keep : ∀ i, i ∉ t.2 ∨ i ∈ s.2 → gI t.1 i = gI s.1 i
  new : ∀ i ∈ t.2, i ∉ s.2 → i ∈ pre ∧ gI t.1 i = d ∧ (∀ a ∈ afs l i, a ∈ s.2 ∧ gI s.1 a + dyA l a ≤ d)
  busy : runL l t.1 t.2 d ≤ most
theorem rdD_iff {l : List Tk} {out : List Int} {B : List Nat} {d : Int} {i : Nat} : rdD l out B d i = true ↔ i ∉ B ∧ ∀ a ∈ afs l i, a ∈ B ∧ gI out a + dyA l a ≤ d := by
  unfold rdD; simp
theorem Day.rd {l : List Tk} {most d : Int} {s t : Sc} {pre : List Nat} (h : Day l most d s pre t) (hP : okP l) {i : Nat} (hi : i < l.length) (hp : i ∉ pre) : rdD l t.1 t.2 d i = rdD l s.1 s.2 d i := by
  rw [Bool.eq_iff_iff, rdD_iff, rdD_iff]
  constructor
  · rintro ⟨h1, h2⟩
    refine ⟨fun h3 => h1 (h.old i h3), fun a ha => ?_⟩
    obtain ⟨h3, h4⟩ := h2 a ha
    by_cases h5 : a ∈ s.2
    · exact ⟨h5, by rw [← h.keep a (.inr h5)]; exact h4⟩
    · have h6 := h.new a h3 h5
      have h7 := (dy_bd hP (h.lt a h3)).1
      have := h6.2.1
      omega
  · rintro ⟨h1, h2⟩
    refine ⟨fun h3 => ?_, fun a ha => ?_⟩
    · exact hp (h.new i h3 h1).1
    · obtain ⟨h3, h4⟩ := h2 a ha
      exact ⟨h.old a h3, by rw [h.keep a (.inr h3)]; exact h4⟩
theorem runL_add {l : List Tk} (hP : okP l) {out : List Int} {B : List Nat} {d : Int} {i : Nat} (hl : out.length = l.length) (hi : i < l.length) (hB : i ∉ B) : runL l (out.set i d) (B ++ [i]) d = runL l out B d + mnA l i := by
  have hd := (dy_bd hP hi).1
  refine sN_upd hi (fun k hk => ?_) ?_
  · unfold rnF
    rw [gI_set_other (i := i) (j := k) (fun e => hk e.symm)]
    have : (B ++ [i]).contains k = B.contains k := by simp [hk]
    rw [this]
  · unfold rnF
    rw [gI_set_same (by omega)]
    have h1 : (B ++ [i]).contains i = true := by simp
    have h2 : B.contains i = false := by simpa using hB
    rw [h1, h2, if_pos (by simp; omega), if_neg (by simp)]
    omega
theorem mnA_bd {l : List Tk} (h : okP l) {i : Nat} (hi : i < l.length) : 1 ≤ mnA l i ∧ mnA l i ≤ 16 := (okTk_spec (h.each i hi)).2.2
theorem Day.step {l : List Tk} {most d : Int} {s t : Sc} {pre : List Nat} (h : Day l most d s pre t) (hP : okP l) (hs : s.1.length = l.length) {i : Nat} (hi : i < l.length) (hp : i ∉ pre) : Day l most d s (pre ++ [i]) (stR l most d t i) := by
  unfold stR
  split
  · rename_i hc
    rw [Bool.and_eq_true, decide_eq_true_eq] at hc
    obtain ⟨hr, hm⟩ := hc
    rw [h.rd hP hi hp] at hr
    obtain ⟨hr1, hr2⟩ := rdD_iff.1 hr
    have hni : i ∉ t.2 := fun hh => hp (h.new i hh hr1).1
    refine ⟨by rw [List.length_set]; exact h.len, ?_, ?_, ?_, ?_, ?_, ?_⟩
    · rw [List.nodup_append]; exact ⟨h.nd, by simp, fun a ha b hb e => by rw [List.mem_singleton.1 hb] at e; exact hni (e ▸ ha)⟩
    · intro j hj
      rcases List.mem_append.1 hj with hj | hj
      · exact h.lt j hj
      · rw [List.mem_singleton.1 hj]; exact hi
    · exact fun j hj => List.mem_append_left _ (h.old j hj)
    · intro j hj
      have hji : i ≠ j := fun e => by
        subst e
        rcases hj with hj | hj
        · exact hj (by simp)
        · exact hr1 hj
      show gI (t.1.set i d) j = _
      rw [gI_set_other hji]
      exact h.keep j (hj.imp (fun a b => a (List.mem_append_left _ b)) id)
    · intro j hj hjs
      rcases List.mem_append.1 hj with hj | hj
      · obtain ⟨a1, a2, a3⟩ := h.new j hj hjs
        refine ⟨List.mem_append_left _ a1, ?_, a3⟩
        show gI (t.1.set i d) j = d
        rw [gI_set_other (i := i) (j := j) (fun e => hni (by rw [e]; exact hj))]
        exact a2
      · rw [List.mem_singleton.1 hj]
        refine ⟨by simp, gI_set_same (by rw [h.len]; omega), hr2⟩
    · show runL l (t.1.set i d) (t.2 ++ [i]) d ≤ most
      rw [runL_add hP (by rw [h.len]; exact hs) hi hni]
      omega
  · refine ⟨h.len, h.nd, h.lt, h.old, h.keep, fun j hj hjs => ?_, h.busy⟩
    obtain ⟨a1, a2, a3⟩ := h.new j hj hjs
    exact ⟨List.mem_append_left _ a1, a2, a3⟩
theorem Day.fold {l : List Tk} {most d : Int} {s : Sc} (hP : okP l) (hs : s.1.length = l.length) : ∀ {post pre : List Nat} {t : Sc}, (pre ++ post).Nodup → (∀ i ∈ post, i < l.length) → Day l most d s pre t → Day l most d s (pre ++ post) (post.foldl (stR l most d) t)
  | [], pre, t, _, _, h => by rw [List.append_nil]; exact h
  | i :: post, pre, t, hn, hl, h => by
    have hp : i ∉ pre := fun hh => by
      rw [List.nodup_append] at hn
      exact hn.2.2 i hh i (List.mem_cons_self ..) rfl
    have h1 := h.step hP hs (hl i (List.mem_cons_self ..)) hp
    have h2 := Day.fold hP hs (post := post) (pre := pre ++ [i]) (by simpa using hn) (fun j hj => hl j (List.mem_cons_of_mem _ hj)) h1
    simpa using h2
structure Inv (l : List Tk) (most : Int) (d : Nat) (s : Sc) : Prop where
  len : s.1.length = l.length
  nd : s.2.Nodup
  lt : ∀ i ∈ s.2, i < l.length
  early : ∀ i ∈ s.2, 0 ≤ gI s.1 i ∧ gI s.1 i < d
  zero : ∀ i, i ∉ s.2 → gI s.1 i = 0
  aft : ∀ i ∈ s.2, ∀ a ∈ afs l i, a ∈ s.2 ∧ gI s.1 a + dyA l a ≤ gI s.1 i
/-- Men at work on a day. -/
def mnF (l : List Tk) (out : List Int) (B : List Nat) (e : Int) (k : Nat) : Int := if B.contains k && decide (gI out k ≤ e ∧ e < gI out k + dyA l k) then mnA l k else 0
def menB (l : List Tk) (out : List Int) (B : List Nat) (e : Int) : Int := sN (mnF l out B e) l.length
structure Inv2 (l : List Tk) (most : Int) (d : Nat) (s : Sc) : Prop where
  crew : ∀ e : Nat, e < d → menB l s.1 s.2 e ≤ most
  busy : ∀ e : Nat, e < d → ∃ j, j ∈ s.2 ∧ gI s.1 j ≤ e ∧ e < gI s.1 j + dyA l j
theorem contains_iff {B : List Nat} {k : Nat} : B.contains k = true ↔ k ∈ B := by simp
theorem runL_men {l : List Tk} {out : List Int} {B : List Nat} {d : Int} (h : ∀ i ∈ B, gI out i ≤ d) : runL l out B d = menB l out B d := by
  refine sN_congr fun k hk => ?_
  unfold rnF mnF
  by_cases hB : k ∈ B
  · have := h k hB
    by_cases h2 : d < gI out k + dyA l k
    · rw [if_pos (by simp [hB, h2]), if_pos (by simp [hB, h2, this])]
    · rw [if_neg (by simp [h2]), if_neg (by simp [h2])]
  · rw [if_neg (by simp [hB]), if_neg (by simp [hB])]
theorem Inv.zeroth (l : List Tk) (most : Int) : Inv l most 0 (List.replicate l.length 0, []) :=
  ⟨by simp, List.nodup_nil, fun i h => (by cases h), fun i h => (by cases h), fun i _ => gI_replicate _ _, fun i h => (by cases h)⟩
theorem Inv2.zeroth (l : List Tk) (most : Int) : Inv2 l most 0 (List.replicate l.length 0, []) := ⟨fun e h => by omega, fun e h => by omega⟩
structure isTr (l : List Tk) (tr : List Nat) : Prop where
  nd : tr.Nodup
  mem : ∀ i, i ∈ tr ↔ i < l.length
theorem Inv.run_le {l : List Tk} {most : Int} {d : Nat} {s : Sc} (hP : okP l) (h : Inv l most d s) (h2 : Inv2 l most d s) (hm : 0 ≤ most) : runL l s.1 s.2 d ≤ most := by
  cases d with
  | zero =>
    have : runL l s.1 s.2 (0 : Nat) = 0 := sN_zero fun k hk => by
      have hB : k ∉ s.2 := fun hh => by have := h.early k hh; omega
      unfold rnF; rw [if_neg (by simp [hB])]
    rw [this]; exact hm
  | succ d =>
    refine Int.le_trans (sN_le fun k hk => ?_) (h2.crew d (by omega))
    have hmn := (mnA_bd hP hk).1
    unfold rnF mnF
    by_cases hB : k ∈ s.2
    · have := h.early k hB
      by_cases h4 : ((d + 1 : Nat) : Int) < gI s.1 k + dyA l k
      · rw [if_pos (by simp only [Bool.and_eq_true, contains_iff, decide_eq_true_eq]; exact ⟨hB, h4⟩), if_pos (by simp only [Bool.and_eq_true, contains_iff, decide_eq_true_eq]; exact ⟨hB, by omega, by omega⟩)]; exact Int.le_refl _
      · rw [if_neg (by simp only [Bool.and_eq_true, contains_iff, decide_eq_true_eq]; exact fun hh => h4 hh.2)]
        split
        · omega
        · omega
    · rw [if_neg (by simp [hB]), if_neg (by simp [hB])]; exact Int.le_refl _
theorem Day.begin {l : List Tk} {most : Int} {d : Nat} {s : Sc} (hP : okP l) (h : Inv l most d s) (h2 : Inv2 l most d s) (hm : 0 ≤ most) : Day l most d s [] s :=
  ⟨rfl, h.nd, h.lt, fun i hi => hi, fun i _ => rfl, fun i hi hn => absurd hi hn, h.run_le hP h2 hm⟩
theorem Day.all {l : List Tk} {most : Int} {d : Nat} {s : Sc} {tr : List Nat} (hP : okP l) (hT : isTr l tr) (h : Inv l most d s) (h2 : Inv2 l most d s) (hm : 0 ≤ most) : Day l most d s tr (dayR l most tr d s) := by
  have := Day.fold (post := tr) (pre := []) hP h.len (by simpa using hT.nd) (fun i hi => (hT.mem i).1 hi) (Day.begin hP h h2 hm)
  unfold dayR; simpa using this
theorem Inv.next {l : List Tk} {most : Int} {d : Nat} {s t : Sc} {pre : List Nat} (hP : okP l) (h : Inv l most d s) (hD : Day l most d s pre t) : Inv l most (d + 1) t := by
  refine ⟨hD.len.trans h.len, hD.nd, hD.lt, fun i hi => ?_, fun i hi => ?_, fun i hi a ha => ?_⟩
  · by_cases hs : i ∈ s.2
    · rw [hD.keep i (.inr hs)]; have := h.early i hs; omega
    · rw [(hD.new i hi hs).2.1]; omega
  · rw [hD.keep i (.inl hi)]; exact h.zero i fun hh => hi (hD.old i hh)
  · by_cases hs : i ∈ s.2
    · obtain ⟨h1, h2⟩ := h.aft i hs a ha
      refine ⟨hD.old a h1, ?_⟩
      rw [hD.keep a (.inr h1), hD.keep i (.inr hs)]; exact h2
    · obtain ⟨-, h1, h2⟩ := hD.new i hi hs
      obtain ⟨h3, h4⟩ := h2 a ha
      refine ⟨hD.old a h3, ?_⟩
      rw [hD.keep a (.inr h3), h1]; exact h4
theorem stR_grow {l : List Tk} {most d : Int} {s : Sc} {i j : Nat} (h : j ∈ s.2) : j ∈ (stR l most d s i).2 := by
  unfold stR; split
  · exact List.mem_append_left _ h
  · exact h
theorem fold_grow {l : List Tk} {most d : Int} {j : Nat} : ∀ {tr : List Nat} {s : Sc}, j ∈ s.2 → j ∈ (tr.foldl (stR l most d) s).2
  | [], s, h => h
  | i :: tr, s, h => fold_grow (tr := tr) (stR_grow h)
/-- On a day that is not the last one something goes on. -/
theorem day_busy {l : List Tk} {most : Int} {d : Nat} {s : Sc} {tr : List Nat} (hP : okP l) (hT : isTr l tr) (h : Inv l most d s) (h2 : Inv2 l most d s) (hm : ∀ i, i < l.length → mnA l i ≤ most) (hs : s.2.length < l.length) :
    ∃ j, j ∈ (dayR l most tr d s).2 ∧ gI (dayR l most tr d s).1 j ≤ d ∧ (d : Int) < gI (dayR l most tr d s).1 j + dyA l j := by
  have hm0 : 0 ≤ most := by have := hm 0 hP.pos; have := (mnA_bd hP hP.pos).1; omega
  have hD := Day.all hP hT h h2 hm0
  have hI := h.next hP hD
  apply Classical.byContradiction
  intro hno
  have hend : ∀ j ∈ (dayR l most tr d s).2, gI (dayR l most tr d s).1 j + dyA l j ≤ d := fun j hj => by
    apply Classical.byContradiction
    intro hh
    exact hno ⟨j, hj, by have := (hI.early j hj).2; omega, by omega⟩
  have hsame : ∀ j ∈ (dayR l most tr d s).2, j ∈ s.2 := fun j hj => by
    apply Classical.byContradiction
    intro hh
    have h3 := (hD.new j hj hh).2.1
    have h4 := hend j hj
    have h5 := (dy_bd hP (hD.lt j hj)).1
    omega
  have hall : ∀ i, i < l.length → i ∈ s.2 := by
    refine ord_ind hP fun i hi ih => ?_
    apply Classical.byContradiction
    intro hn
    apply hn
    apply hsame
    obtain ⟨pre, post, hsp⟩ := List.append_of_mem ((hT.mem i).2 hi)
    have hnd := hT.nd
    rw [hsp] at hnd
    have hDp := Day.fold (post := pre) (pre := []) (most := most) (d := d) (s := s) (t := s) hP h.len (by simpa using (List.nodup_append.1 hnd).1) (fun j hj => (hT.mem j).1 (by rw [hsp]; exact List.mem_append_left _ hj)) (Day.begin hP h h2 hm0)
    rw [List.nil_append] at hDp
    generalize hq : pre.foldl (stR l most d) s = q at hDp
    have hfin : dayR l most tr d s = post.foldl (stR l most d) (stR l most d q i) := by
      unfold dayR; rw [hsp, List.foldl_append, hq]; rfl
    have hqs : ∀ j ∈ q.2, j ∈ s.2 := fun j hj => hsame j (by rw [hfin]; exact fold_grow (stR_grow hj))
    rw [hfin]
    apply fold_grow
    have hip : i ∉ pre := fun hh => (List.nodup_append.1 hnd).2.2 i hh i (List.mem_cons_self ..) rfl
    have hr : rdD l q.1 q.2 d i = true := by
      rw [hDp.rd hP hi hip, rdD_iff]
      refine ⟨hn, fun a ha => ⟨ih a ha, ?_⟩⟩
      have h3 := hend a (hD.old a (ih a ha))
      rw [hD.keep a (.inr (ih a ha))] at h3
      exact h3
    have hrun : runL l q.1 q.2 d = 0 := sN_zero fun k hk => by
      unfold rnF
      by_cases hB : k ∈ q.2
      · have hks := hqs k hB
        have h3 := hend k (hD.old k hks)
        rw [hD.keep k (.inr hks)] at h3
        rw [hDp.keep k (.inr hks), if_neg (by simp; omega)]
      · rw [if_neg (by simp [hB])]
    unfold stR
    rw [if_pos (by rw [hr, hrun]; have := hm i hi; simp; omega)]
    simp
  have : l.length ≤ s.2.length := by
    have := nodup_len (n := s.2.length) (xs := List.range l.length) List.nodup_range
    have h3 : (List.range l.length).length ≤ s.2.length := List.Nodup.length_le_of_subset List.nodup_range (fun x hx => hall x (List.mem_range.1 hx))
    simpa using h3
  omega
theorem Inv2.next {l : List Tk} {most : Int} {d : Nat} {s : Sc} {tr : List Nat} (hP : okP l) (hT : isTr l tr) (h : Inv l most d s) (h2 : Inv2 l most d s) (hm : ∀ i, i < l.length → mnA l i ≤ most) (hs : s.2.length < l.length) : Inv2 l most (d + 1) (dayR l most tr d s) := by
  have hm0 : 0 ≤ most := by have := hm 0 hP.pos; have := (mnA_bd hP hP.pos).1; omega
  have hD := Day.all hP hT h h2 hm0
  have hI := h.next hP hD
  have hkeep : ∀ e : Nat, e < d → ∀ k, mnF l (dayR l most tr d s).1 (dayR l most tr d s).2 e k = mnF l s.1 s.2 e k := fun e he k => by
    unfold mnF
    by_cases hk : k ∈ s.2
    · have h3 := hD.old k hk
      rw [hD.keep k (.inr hk), contains_iff.2 hk, contains_iff.2 h3]
    · rw [show s.2.contains k = false by simpa using hk]
      by_cases h3 : k ∈ (dayR l most tr d s).2
      · rw [(hD.new k h3 hk).2.1, if_neg (by simp; omega), if_neg (by simp)]
      · rw [show (dayR l most tr d s).2.contains k = false by simpa using h3]; rfl
  refine ⟨fun e he => ?_, fun e he => ?_⟩
  · by_cases h3 : e = d
    · subst h3
      rw [← runL_men fun i hi => by have := (hI.early i hi).2; omega]
      exact hD.busy
    · have := h2.crew e (by omega)
      unfold menB
      rw [sN_congr fun k _ => hkeep e (by omega) k]
      exact this
  · by_cases h3 : e = d
    · subst h3; exact day_busy hP hT h h2 hm hs
    · obtain ⟨j, a1, a2, a3⟩ := h2.busy e (by omega)
      exact ⟨j, hD.old j a1, by rw [hD.keep j (.inr a1)]; exact a2, by rw [hD.keep j (.inr a1)]; exact a3⟩
end Go.Proofs.Ytgijekhlbkfanaa

namespace Go.Proofs.Ytgijekhlbkfanaa

/-! ### the turn -/
def lexL (late : List Int) (a b : Nat) : Prop := gI late a < gI late b ∨ (gI late a = gI late b ∧ a < b)
theorem lexL.irr {late : List Int} {a : Nat} : ¬ lexL late a a := by unfold lexL; omega
theorem lexL.tr {late : List Int} {a b c : Nat} (h : lexL late a b) (k : lexL late b c) : lexL late a c := by unfold lexL at *; omega
theorem sorted_one {late : List Int} : ∀ {xs ys : List Nat}, xs.Pairwise (lexL late) → ys.Pairwise (lexL late) → (∀ x, x ∈ xs ↔ x ∈ ys) → xs = ys
  | [], [], _, _, _ => rfl
  | [], y :: ys, _, _, h => by have := (h y).2 (List.mem_cons_self ..); cases this
  | x :: xs, [], _, _, h => by have := (h x).1 (List.mem_cons_self ..); cases this
  | x :: xs, y :: ys, hx, hy, h => by
    obtain ⟨hx1, hx2⟩ := List.pairwise_cons.1 hx
    obtain ⟨hy1, hy2⟩ := List.pairwise_cons.1 hy
    have hxy : x = y := by
      rcases List.mem_cons.1 ((h x).1 (List.mem_cons_self ..)) with e | h1
      · exact e
      · rcases List.mem_cons.1 ((h y).2 (List.mem_cons_self ..)) with e | h2
        · exact e.symm
        · exact absurd ((hy1 x h1).tr (hx1 y h2)) lexL.irr
    subst hxy
    congr 1
    refine sorted_one hx2 hy2 fun z => ⟨fun hz => ?_, fun hz => ?_⟩
    · rcases List.mem_cons.1 ((h z).1 (List.mem_cons_of_mem _ hz)) with e | h1
      · exact absurd (e ▸ hx1 z hz) lexL.irr
      · exact h1
    · rcases List.mem_cons.1 ((h z).2 (List.mem_cons_of_mem _ hz)) with e | h1
      · exact absurd (e ▸ hy1 z hz) lexL.irr
      · exact h1
/-- A new last one is put into its place. -/
def insV (late : List Int) : List Nat → Nat → List Nat
  | [], x => [x]
  | y :: r, x => if gI late x < gI late y then insV late r x ++ [y] else (y :: r).reverse ++ [x]
def isortV (late : List Int) (xs : List Nat) : List Nat := xs.foldl (fun acc x => insV late acc.reverse x) []
theorem insV_mem {late : List Int} : ∀ {r : List Nat} {x z : Nat}, z ∈ insV late r x ↔ z ∈ r ∨ z = x
  | [], x, z => by simp [insV]
  | y :: r, x, z => by
    rw [insV]
    split
    · rw [List.mem_append, insV_mem, List.mem_singleton, List.mem_cons]
      constructor
      · rintro ((h | h) | h)
        · exact .inl (.inr h)
        · exact .inr h
        · exact .inl (.inl h)
      · rintro ((h | h) | h)
        · exact .inr h
        · exact .inl (.inl h)
        · exact .inl (.inr h)
    · rw [List.mem_append, List.mem_reverse, List.mem_singleton]
theorem insV_len {late : List Int} : ∀ (r : List Nat) (x : Nat), (insV late r x).length = r.length + 1
  | [], x => rfl
  | y :: r, x => by
    rw [insV]
    split
    · rw [List.length_append, insV_len]; rfl
    · simp
theorem insV_sorted {late : List Int} : ∀ {r : List Nat} {x : Nat}, r.reverse.Pairwise (lexL late) → (∀ y ∈ r, y < x) → (insV late r x).Pairwise (lexL late)
  | [], x, _, _ => by simp [insV]
  | y :: r, x, h, hb => by
    rw [List.reverse_cons, List.pairwise_append] at h
    obtain ⟨h1, -, h3⟩ := h
    rw [insV]
    split
    · rename_i hl
      rw [List.pairwise_append]
      refine ⟨insV_sorted h1 fun z hz => hb z (List.mem_cons_of_mem _ hz), by simp, fun a ha b hb' => ?_⟩
      rw [List.mem_singleton.1 hb']
      rcases insV_mem.1 ha with h4 | h4
      · exact h3 a (by simpa using h4) y (by simp)
      · rw [h4]; exact .inl hl
    · rename_i hl
      rw [List.reverse_cons, List.pairwise_append]
      refine ⟨by rw [List.pairwise_append]; exact ⟨h1, by simp, h3⟩, by simp, fun a ha b hb' => ?_⟩
      rw [List.mem_singleton.1 hb']
      have hax : a < x := hb a (by simp at ha ⊢; exact ha.symm)
      have hyx := hb y (List.mem_cons_self ..)
      rcases List.mem_append.1 ha with h4 | h4
      · have := h3 a h4 y (by simp)
        unfold lexL at *; omega
      · rw [List.mem_singleton.1 h4]; unfold lexL; omega
theorem isort_key {late : List Int} : ∀ {xs acc : List Nat}, xs.Pairwise (· < ·) → acc.Pairwise (lexL late) → (∀ y ∈ acc, ∀ x ∈ xs, y < x) → (xs.foldl (fun acc x => insV late acc.reverse x) acc).Pairwise (lexL late) ∧ ∀ z, z ∈ xs.foldl (fun acc x => insV late acc.reverse x) acc ↔ z ∈ acc ∨ z ∈ xs
  | [], acc, _, h, _ => ⟨h, fun z => by simp⟩
  | x :: xs, acc, hx, h, hb => by
    obtain ⟨h1, h2⟩ := List.pairwise_cons.1 hx
    obtain ⟨h3, h4⟩ := isort_key (xs := xs) (acc := insV late acc.reverse x) h2 (insV_sorted (by rw [List.reverse_reverse]; exact h) fun y hy => hb y (by simpa using hy) x (List.mem_cons_self ..)) (fun y hy z hz => by
      rcases insV_mem.1 hy with h5 | h5
      · exact hb y (by simpa using h5) z (List.mem_cons_of_mem _ hz)
      · rw [h5]; exact h1 z hz)
    refine ⟨h3, fun z => ?_⟩
    rw [List.foldl_cons, h4 z, insV_mem, List.mem_reverse, List.mem_cons, or_assoc]
theorem isortV_len (late : List Int) (xs : List Nat) : (isortV late xs).length = xs.length := by
  have : ∀ (xs acc : List Nat), (xs.foldl (fun acc x => insV late acc.reverse x) acc).length = acc.length + xs.length := by
    intro xs
    induction xs with
    | nil => intro acc; rfl
    | cons x xs ih => intro acc; rw [List.foldl_cons, ih, insV_len, List.length_reverse, List.length_cons]; omega
  have := this xs []
  unfold isortV; rw [this]; simp
theorem isortV_is {late : List Int} {xs ys : List Nat} (hx : xs.Pairwise (· < ·)) (hy : ys.Pairwise (lexL late)) (h : ∀ z, z ∈ ys ↔ z ∈ xs) : isortV late xs = ys := by
  obtain ⟨h1, h2⟩ := isort_key (late := late) (xs := xs) (acc := []) hx List.Pairwise.nil (fun y hy => by cases hy)
  refine sorted_one h1 hy fun z => ?_
  show z ∈ xs.foldl _ [] ↔ _
  rw [h2 z, h z]; simp
/-- Day by day the tasks whose latest day it is. -/
def trnA (late : List Int) (n : Nat) (d : Nat) (j : Nat) : List Nat := (List.range j).filter fun i => decide (gI late i = (d : Int))
def trnK (late : List Int) (n : Nat) : Nat → List Nat
  | 0 => []
  | d + 1 => trnK late n d ++ trnA late n d n
theorem trnA_next (late : List Int) (n d j : Nat) : trnA late n d (j + 1) = if gI late j = (d : Int) then trnA late n d j ++ [j] else trnA late n d j := by
  unfold trnA; rw [List.range_succ, List.filter_append]
  by_cases h : gI late j = (d : Int)
  · rw [if_pos h]; simp [h]
  · rw [if_neg h]; simp [h]
theorem trnK_mem {late : List Int} {n : Nat} : ∀ {d z : Nat}, z ∈ trnK late n d ↔ z < n ∧ 0 ≤ gI late z ∧ gI late z < d
  | 0, z => ⟨fun h => (by cases h), fun h => (by omega)⟩
  | d + 1, z => by
    rw [trnK, List.mem_append, trnK_mem]
    unfold trnA
    rw [List.mem_filter, List.mem_range, decide_eq_true_eq]
    omega
theorem range_lt (n : Nat) : (List.range n).Pairwise (· < ·) := List.pairwise_lt_range
theorem trnK_sorted {late : List Int} {n : Nat} : ∀ d : Nat, (trnK late n d).Pairwise (lexL late)
  | 0 => List.Pairwise.nil
  | d + 1 => by
    rw [trnK, List.pairwise_append]
    refine ⟨trnK_sorted d, ?_, fun a ha b hb => ?_⟩
    · unfold trnA
      have h1 : ((List.range n).filter fun i => decide (gI late i = (d : Int))).Pairwise (· < ·) := (range_lt n).filter _
      refine List.Pairwise.imp_of_mem (fun {a b} ha hb hab => ?_) h1
      rw [List.mem_filter, decide_eq_true_eq] at ha hb
      exact .inr ⟨by omega, hab⟩
    · unfold trnA at hb
      rw [List.mem_filter, decide_eq_true_eq] at hb
      have := trnK_mem.1 ha
      exact .inl (by omega)
def trn (l : List Tk) : List Nat := trnK (latP l) l.length (endsV l (latP l) + 1).toNat
theorem lat_pos {l : List Tk} (h : okP l) {i : Nat} (hi : i < l.length) : 0 ≤ gI (latP l) i := Int.le_trans (ear_pos h i) (ear_lat h i hi)
theorem trn_is {l : List Tk} (h : okP l) : isTr l (trn l) := by
  have hs := trnK_sorted (late := latP l) (n := l.length) (endsV l (latP l) + 1).toNat
  refine ⟨?_, fun i => ?_⟩
  · exact hs.imp fun {a b} hab e => by subst e; exact lexL.irr hab
  · unfold trn; rw [trnK_mem]
    constructor
    · exact fun hh => hh.1
    · intro hi
      have h1 := (ends_spec l (latP l)).2.1 i hi
      have h2 := (dy_bd h hi).1
      have h3 := lat_pos h hi
      have h4 := (ends_spec l (latP l)).1
      exact ⟨hi, h3, by omega⟩
theorem trn_sorted (l : List Tk) : (trn l).Pairwise (lexL (latP l)) := trnK_sorted _
/-- The program's free tasks, sorted, are the turn's. -/
theorem free_sorted {l : List Tk} (h : okP l) (p : Nat → Bool) : isortV (latP l) ((List.range l.length).filter p) = (trn l).filter p := by
  refine isortV_is ((range_lt _).filter _) ((trn_sorted l).filter _) fun z => ?_
  rw [List.mem_filter, List.mem_filter, (trn_is h).mem, List.mem_range]
def stP (l : List Tk) (d : Int) (q : Int × Sc) (i : Nat) : Int × Sc := if mnA l i ≤ q.1 then (q.1 - mnA l i, q.2.1.set i d, q.2.2 ++ [i]) else q
theorem dayP_fold {l : List Tk} {most d : Int} {s : Sc} (hP : okP l) (hs : s.1.length = l.length) : ∀ {post pre : List Nat} {t : Sc}, (pre ++ post).Nodup → (∀ i ∈ post, i < l.length) → Day l most d s pre t →
    (post.filter (rdD l s.1 s.2 d)).foldl (stP l d) (most - runL l t.1 t.2 d, t) = (most - runL l (post.foldl (stR l most d) t).1 (post.foldl (stR l most d) t).2 d, post.foldl (stR l most d) t)
  | [], pre, t, _, _, h => rfl
  | i :: post, pre, t, hn, hl, h => by
    have hp : i ∉ pre := fun hh => by
      rw [List.nodup_append] at hn
      exact hn.2.2 i hh i (List.mem_cons_self ..) rfl
    have hi := hl i (List.mem_cons_self ..)
    have h1 := h.step hP hs hi hp
    have h2 := dayP_fold hP hs (post := post) (pre := pre ++ [i]) (by simpa using hn) (fun j hj => hl j (List.mem_cons_of_mem _ hj)) h1
    rw [List.foldl_cons, ← h2, List.filter_cons]
    have hr := h.rd hP hi hp
    by_cases hq : rdD l s.1 s.2 d i = true
    · rw [if_pos hq, List.foldl_cons]
      rw [hq] at hr
      congr 1
      have hni : i ∉ t.2 := fun hh => (rdD_iff.1 hr).1 hh
      unfold stP stR
      rw [hr, Bool.true_and]
      by_cases hm : mnA l i + runL l t.1 t.2 d ≤ most
      · rw [if_pos (show mnA l i ≤ most - runL l t.1 t.2 d by omega), if_pos (by simpa using hm)]
        show (_, _) = (most - runL l (t.1.set i d) (t.2 ++ [i]) d, (t.1.set i d, t.2 ++ [i]))
        rw [runL_add hP (by rw [h.len]; exact hs) hi hni]
        congr 1
        omega
      · rw [if_neg (show ¬ mnA l i ≤ most - runL l t.1 t.2 d by omega), if_neg (by simpa using hm)]
    · have hq' : rdD l s.1 s.2 d i = false := by simpa using hq
      rw [if_neg hq]
      rw [hq'] at hr
      have : stR l most d t i = t := by unfold stR; rw [hr]; rfl
      rw [this]
theorem dayP_eq {l : List Tk} {most : Int} {d : Nat} {s : Sc} (hP : okP l) (h : Inv l most d s) (h2 : Inv2 l most d s) (hm : 0 ≤ most) :
    ((isortV (latP l) ((List.range l.length).filter (rdD l s.1 s.2 d))).foldl (stP l d) (most - runL l s.1 s.2 d, s)).2 = dayR l most (trn l) d s := by
  rw [free_sorted hP]
  have hT := trn_is hP
  rw [dayP_fold hP h.len (pre := []) (by simpa using hT.nd) (fun i hi => (hT.mem i).1 hi) (Day.begin hP h h2 hm)]
  rfl

/-! ### the whole listing -/
def totD (l : List Tk) : Int := sN (dyA l) l.length
structure Run (l : List Tk) (most : Int) (d : Nat) : Prop where
  inv : Inv l most d (schK l most (trn l) d)
  inv2 : Inv2 l most d (schK l most (trn l) d)
theorem Run.zeroth (l : List Tk) (most : Int) : Run l most 0 := ⟨Inv.zeroth l most, Inv2.zeroth l most⟩
theorem Run.next {l : List Tk} {most : Int} {d : Nat} (hP : okP l) (hm : ∀ i, i < l.length → mnA l i ≤ most) (h : Run l most d) (hs : (schK l most (trn l) d).2.length < l.length) : Run l most (d + 1) := by
  have hm0 : 0 ≤ most := by have := hm 0 hP.pos; have := (mnA_bd hP hP.pos).1; omega
  have hT := trn_is hP
  exact ⟨h.inv.next hP (Day.all hP hT h.inv h.inv2 hm0), h.inv2.next hP hT h.inv hm hs⟩
theorem sN_mono {f : Nat → Int} {m n : Nat} (h : m ≤ n) (hf : ∀ k, 0 ≤ f k) : sN f m ≤ sN f n := by
  induction n with
  | zero => rw [show m = 0 by omega]; exact Int.le_refl _
  | succ n ih =>
    by_cases e : m = n + 1
    · rw [e]; exact Int.le_refl _
    · have := ih (by omega)
      have := hf n
      show sN f m ≤ sN f n + f n
      omega
/-- Days on which something goes on are no more than all days of work. -/
theorem busy_days {l : List Tk} (hP : okP l) {out : List Int} (h0 : ∀ j, j < l.length → 0 ≤ gI out j) {D : Nat} (h : ∀ e : Nat, e < D → ∃ j, j < l.length ∧ gI out j ≤ e ∧ (e : Int) < gI out j + dyA l j) : (D : Int) ≤ totD l := by
  obtain ⟨M, hM1, hM2⟩ : ∃ M : Nat, D ≤ M ∧ ∀ j, j < l.length → gI out j + dyA l j ≤ M := by
    refine ⟨D + (endsV l out).toNat, by omega, fun j hj => ?_⟩
    have := (ends_spec l out).2.1 j hj
    have := (ends_spec l out).1
    omega
  have h1 : (D : Int) ≤ sN (fun e => sN (fun j => if gI out j ≤ (e : Int) ∧ (e : Int) < gI out j + dyA l j then 1 else 0) l.length) D := by
    have : sN (fun _ => (1 : Int)) D = D := by
      induction D with
      | zero => rfl
      | succ D ih =>
        show sN _ D + 1 = _
        have : ∀ n : Nat, sN (fun _ => (1 : Int)) n = n := fun n => by
          induction n with
          | zero => rfl
          | succ n ih => show sN _ n + 1 = _; rw [ih]; omega
        rw [this]; omega
    rw [← this]
    rw [show sN (fun _ => (1 : Int)) D = (D : Int) from this]
    rw [← this]
    refine sN_le fun e he => ?_
    obtain ⟨j, hj, hb⟩ := h e he
    have := sN_one (fun j => if gI out j ≤ (e : Int) ∧ (e : Int) < gI out j + dyA l j then (1 : Int) else 0) hj (fun k _ => by (try dsimp only); split <;> omega)
    (try dsimp only at this)
    rw [if_pos hb] at this
    exact this
  refine Int.le_trans h1 (Int.le_trans (sN_mono hM1 fun e => sN_nonneg fun k _ => by (try dsimp only); split <;> omega) ?_)
  rw [← sN_swap]
  refine sN_le fun j hj => ?_
  have := sN_stretch (c := 1) (h0 j hj) (show 0 ≤ dyA l j by have := (dy_bd hP hj).1; omega) M (hM2 j hj)
  rw [Int.one_mul] at this
  exact Int.le_of_eq this
theorem Run.bd {l : List Tk} {most : Int} {d : Nat} (hP : okP l) (h : Run l most d) : (d : Int) ≤ totD l := by
  refine busy_days hP (out := (schK l most (trn l) d).1) (fun j hj => ?_) fun e he => ?_
  · by_cases hB : j ∈ (schK l most (trn l) d).2
    · exact (h.inv.early j hB).1
    · rw [h.inv.zero j hB]; exact Int.le_refl _
  · obtain ⟨j, h1, h2, h3⟩ := h.inv2.busy e he
    exact ⟨j, h.inv.lt j h1, h2, h3⟩
theorem Inv.full {l : List Tk} {most : Int} {d : Nat} {s : Sc} (h : Inv l most d s) (hf : ¬ s.2.length < l.length) {i : Nat} (hi : i < l.length) : i ∈ s.2 := by
  apply Classical.byContradiction
  intro hn
  have : (i :: s.2).length ≤ l.length := nodup_len (List.nodup_cons.2 ⟨hn, h.nd⟩) fun x hx => by
    rcases List.mem_cons.1 hx with rfl | hx
    · exact hi
    · exact h.lt x hx
  rw [List.length_cons] at this
  omega
theorem Inv.len_le {l : List Tk} {most : Int} {d : Nat} {s : Sc} (h : Inv l most d s) : s.2.length ≤ l.length := nodup_len h.nd h.lt
theorem full_stay {l : List Tk} {most d : Int} {s : Sc} (hf : ∀ i, i < l.length → i ∈ s.2) : ∀ {tr : List Nat}, (∀ i ∈ tr, i < l.length) → tr.foldl (stR l most d) s = s
  | [], _ => rfl
  | i :: tr, h => by
    have : stR l most d s i = s := by
      unfold stR rdD
      rw [contains_iff.2 (hf i (h i (List.mem_cons_self ..)))]
      rfl
    rw [List.foldl_cons, this]
    exact full_stay hf fun j hj => h j (List.mem_cons_of_mem _ hj)
theorem schK_stay {l : List Tk} {most : Int} {d : Nat} (hP : okP l) (hf : ∀ i, i < l.length → i ∈ (schK l most (trn l) d).2) : ∀ m, schK l most (trn l) (d + m) = schK l most (trn l) d
  | 0 => rfl
  | m + 1 => by
    show dayR l most (trn l) (d + m : Nat) (schK l most (trn l) (d + m)) = _
    rw [schK_stay hP hf m]
    exact full_stay hf fun i hi => ((trn_is hP).mem i).1 hi
/-- The schedule that is listed. -/
def LST (l : List Tk) (most : Int) : List Int := (schK l most (trn l) (totD l).toNat).1
theorem sch_done {l : List Tk} {most : Int} {d : Nat} (hP : okP l) (h : Run l most d) (hf : ¬ (schK l most (trn l) d).2.length < l.length) : (schK l most (trn l) d).1 = LST l most := by
  have h1 := h.bd hP
  have := schK_stay hP (fun i hi => h.inv.full hf hi) ((totD l).toNat - d)
  unfold LST
  rw [← this]
  congr 2
  omega
/-- There is a day on which all have begun. -/
theorem sch_ends {l : List Tk} {most : Int} (hP : okP l) (hm : ∀ i, i < l.length → mnA l i ≤ most) : ∃ D, Run l most D ∧ ¬ (schK l most (trn l) D).2.length < l.length := by
  apply Classical.byContradiction
  intro hno
  have key : ∀ d, Run l most d := by
    intro d
    induction d with
    | zero => exact Run.zeroth l most
    | succ d ih => exact ih.next hP hm (Classical.byContradiction fun hh => hno ⟨d, ih, hh⟩)
  have := (key ((totD l).toNat + 1)).bd hP
  omega
/-- Men at work on a day. -/
def menV (l : List Tk) (days : List Int) (e : Int) : Int := sN (fun k => if gI days k ≤ e ∧ e < gI days k + dyA l k then mnA l k else 0) l.length
structure Lst (l : List Tk) (most : Int) (out : List Int) : Prop where
  len : out.length = l.length
  pos : ∀ i, i < l.length → 0 ≤ gI out i ∧ gI out i ≤ totD l
  aft : ∀ i, i < l.length → ∀ a ∈ afs l i, gI out a + dyA l a ≤ gI out i
  crew : ∀ e : Int, menV l out e ≤ most
  busy : ∀ e : Int, 0 ≤ e → e < endsV l out → 1 ≤ menV l out e
theorem menV_one {l : List Tk} (hP : okP l) {out : List Int} {e : Int} {j : Nat} (hj : j < l.length) (h : gI out j ≤ e ∧ e < gI out j + dyA l j) : 1 ≤ menV l out e := by
  have h1 := (mnA_bd hP hj).1
  have := sN_one (fun k => if gI out k ≤ e ∧ e < gI out k + dyA l k then mnA l k else 0) hj (fun k hk => by have := (mnA_bd hP hk).1; (try dsimp only); split <;> omega)
  (try dsimp only at this)
  rw [if_pos h] at this
  unfold menV
  omega
theorem LST_is {l : List Tk} {most : Int} (hP : okP l) (hm : ∀ i, i < l.length → mnA l i ≤ most) : Lst l most (LST l most) := by
  obtain ⟨D, hR, hf⟩ := sch_ends hP hm
  rw [← sch_done hP hR hf]
  have hfull := fun i (hi : i < l.length) => hR.inv.full hf hi
  have hbd := hR.bd hP
  have hmen : ∀ e : Int, menB l (schK l most (trn l) D).1 (schK l most (trn l) D).2 e = menV l (schK l most (trn l) D).1 e := fun e => sN_congr fun k hk => by
    unfold mnF
    rw [contains_iff.2 (hfull k hk)]
    by_cases h : gI (schK l most (trn l) D).1 k ≤ e ∧ e < gI (schK l most (trn l) D).1 k + dyA l k
    · rw [if_pos h, if_pos (by simpa using h)]
    · rw [if_neg h, if_neg (by simpa using h)]
  have hm0 : 0 ≤ most := by have := hm 0 hP.pos; have := (mnA_bd hP hP.pos).1; omega
  have hD0 : 0 < D := by
    rcases Nat.eq_zero_or_pos D with rfl | h
    · have := hfull 0 hP.pos
      cases this
    · exact h
  refine ⟨hR.inv.len, fun i hi => ?_, fun i hi a ha => (hR.inv.aft i (hfull i hi) a ha).2, fun e => ?_, fun e he hend => ?_⟩
  · have := hR.inv.early i (hfull i hi); omega
  · by_cases h0 : e < 0
    · refine Int.le_trans (Int.le_of_eq ?_) hm0
      exact sN_zero fun k hk => by
        have := (hR.inv.early k (hfull k hk)).1
        (try dsimp only)
        rw [if_neg (by omega)]
    · by_cases h1 : e < D
      · have := hR.inv2.crew e.toNat (by omega)
        rw [show ((e.toNat : Nat) : Int) = e by omega, hmen] at this
        exact this
      · have := hR.inv2.crew (D - 1) (by omega)
        rw [hmen] at this
        refine Int.le_trans (sN_le fun k hk => ?_) this
        have h3 := (hR.inv.early k (hfull k hk)).2
        have h4 := (mnA_bd hP hk).1
        (try dsimp only)
        by_cases h5 : gI (schK l most (trn l) D).1 k ≤ e ∧ e < gI (schK l most (trn l) D).1 k + dyA l k
        · rw [if_pos h5, if_pos (by omega)]; exact Int.le_refl _
        · rw [if_neg h5]; split <;> omega
  · by_cases h1 : e < D
    · obtain ⟨j, b1, b2, b3⟩ := hR.inv2.busy e.toNat (by omega)
      have h2 : ((e.toNat : Nat) : Int) = e := by omega
      rw [h2] at b2 b3
      exact menV_one hP (hR.inv.lt j b1) ⟨b2, b3⟩
    · rcases (ends_spec l (schK l most (trn l) D).1).2.2 with h2 | ⟨i, hi, h2⟩
      · omega
      · have h3 := (hR.inv.early i (hfull i hi)).2
        exact menV_one hP hi (by omega)
end Go.Proofs.Ytgijekhlbkfanaa

namespace Go.Proofs.Ytgijekhlbkfanaa

theorem Lst.ear {l : List Tk} {most : Int} {out : List Int} (hP : okP l) (h : Lst l most out) : ∀ i, i < l.length → gI (ear l) i ≤ gI out i :=
  ord_ind hP fun i hi ih => by
    rcases ear_some hP hi with h1 | ⟨a, ha, h1⟩
    · have := (h.pos i hi).1; omega
    · have := ih a ha; have := h.aft i hi a ha; omega
theorem Lst.len_le {l : List Tk} {most : Int} {out : List Int} (hP : okP l) (h : Lst l most out) : lenV l ≤ endsV l out := by
  rcases (ends_spec l (Go.Proofs.Ytgijekhlbkfanaa.ear l)).2.2 with h1 | ⟨i, hi, h1⟩
  · have := (ends_spec l out).1
    unfold lenV; omega
  · have h2 := h.ear hP i hi
    have h3 := (ends_spec l out).2.1 i hi
    unfold lenV; omega
theorem Lst.ends_le {l : List Tk} {most : Int} {out : List Int} (hP : okP l) (h : Lst l most out) : endsV l out ≤ totD l := by
  have h0 := (ends_spec l out).1
  have := busy_days hP (out := out) (D := (endsV l out).toNat) (fun j hj => (h.pos j hj).1) fun e he => by
    have h1 := h.busy e (by omega) (by omega)
    apply Classical.byContradiction
    intro hno
    have : menV l out e = 0 := sN_zero fun k hk => by
      try dsimp only
      rw [if_neg (fun hh => hno ⟨k, hk, hh.1, hh.2⟩)]
    omega
  omega
def wrkV (l : List Tk) : Int := sN (fun k => mnA l k * dyA l k) l.length
theorem Lst.sum {l : List Tk} {most : Int} {out : List Int} (hP : okP l) (h : Lst l most out) : sN (fun e => menV l out (e : Int)) (endsV l out).toNat = wrkV l := by
  have h0 := (ends_spec l out).1
  unfold menV wrkV
  rw [← sN_swap]
  refine sN_congr fun k hk => ?_
  have h1 := (ends_spec l out).2.1 k hk
  have h2 := (dy_bd hP hk).1
  exact sN_stretch (c := mnA l k) (h.pos k hk).1 (by omega) _ (by omega)
theorem Lst.wrk_le {l : List Tk} {most : Int} {out : List Int} (hP : okP l) (h : Lst l most out) : wrkV l ≤ endsV l out * most := by
  have h0 := (ends_spec l out).1
  rw [← h.sum hP]
  have : sN (fun _ => most) (endsV l out).toNat = endsV l out * most := by
    have : ∀ n : Nat, sN (fun _ => most) n = n * most := fun n => by
      induction n with
      | zero => show (0 : Int) = ((0 : Nat) : Int) * most; simp
      | succ n ih =>
        show sN _ n + most = _
        rw [ih, show ((n + 1 : Nat) : Int) = (n : Int) + 1 by omega, Int.add_mul, Int.one_mul]
    rw [this, show (((endsV l out).toNat : Nat) : Int) = endsV l out by omega]
  rw [← this]
  exact sN_le fun e _ => h.crew e
theorem wrk_pos {l : List Tk} (hP : okP l) : 0 ≤ wrkV l := sN_nonneg fun k hk => by
  try dsimp only
  exact Int.mul_nonneg (by have := (mnA_bd hP hk).1; omega) (by have := (dy_bd hP hk).1; omega)
def ceilV (l : List Tk) (most : Int) : Int := (wrkV l + most - 1) / most
theorem Lst.ceil_le {l : List Tk} {most : Int} {out : List Int} (hP : okP l) (h : Lst l most out) (hm : 1 ≤ most) : ceilV l most ≤ endsV l out := by
  have h1 := h.wrk_le hP
  unfold ceilV
  have h2 : (wrkV l + most - 1) / most < endsV l out + 1 := by
    rw [Int.ediv_lt_iff_lt_mul (by omega), Int.add_mul]
    omega
  omega
/-- The days until all have begun. -/
theorem sch_first {l : List Tk} {most : Int} (hP : okP l) (hm : ∀ i, i < l.length → mnA l i ≤ most) : ∃ D, (∀ d, d ≤ D → Run l most d) ∧ (∀ d, d < D → (schK l most (trn l) d).2.length < l.length) ∧ ¬ (schK l most (trn l) D).2.length < l.length := by
  apply Classical.byContradiction
  intro hno
  have key : ∀ d, (∀ e, e ≤ d → Run l most e) ∧ ∀ e, e < d → (schK l most (trn l) e).2.length < l.length := by
    intro d
    induction d with
    | zero => exact ⟨fun e he => by rw [show e = 0 by omega]; exact Run.zeroth l most, fun e he => by omega⟩
    | succ d ih =>
      have hd : (schK l most (trn l) d).2.length < l.length := Classical.byContradiction fun hh => hno ⟨d, ih.1, ih.2, hh⟩
      refine ⟨fun e he => ?_, fun e he => ?_⟩
      · by_cases h : e = d + 1
        · rw [h]; exact (ih.1 d (Nat.le_refl _)).next hP hm hd
        · exact ih.1 e (by omega)
      · by_cases h : e = d
        · rw [h]; exact hd
        · exact ih.2 e (by omega)
  have := ((key ((totD l).toNat + 1)).1 _ (Nat.le_refl _)).bd hP
  omega
theorem Run.day {l : List Tk} {most : Int} {d : Nat} (hP : okP l) (hm : ∀ i, i < l.length → mnA l i ≤ most) (h : Run l most d) : Day l most d (schK l most (trn l) d) (trn l) (schK l most (trn l) (d + 1)) := by
  have hm0 : 0 ≤ most := by have := hm 0 hP.pos; have := (mnA_bd hP hP.pos).1; omega
  exact Day.all hP (trn_is hP) h.inv h.inv2 hm0
theorem sch_pers {l : List Tk} {most : Int} (hP : okP l) (hm : ∀ i, i < l.length → mnA l i ≤ most) {e : Nat} : ∀ m, (∀ d, d ≤ e + m → Run l most d) → (∀ i ∈ (schK l most (trn l) e).2, i ∈ (schK l most (trn l) (e + m)).2 ∧ gI (schK l most (trn l) (e + m)).1 i = gI (schK l most (trn l) e).1 i) ∧
    ∀ i ∈ (schK l most (trn l) (e + m)).2, i ∉ (schK l most (trn l) e).2 → (e : Int) ≤ gI (schK l most (trn l) (e + m)).1 i
  | 0, _ => ⟨fun i hi => ⟨hi, rfl⟩, fun i hi hn => absurd hi hn⟩
  | m + 1, hr => by
    obtain ⟨h1, h2⟩ := sch_pers hP hm (e := e) m fun d hd => hr d (by omega)
    have hD := (hr (e + m) (by omega)).day hP hm
    refine ⟨fun i hi => ?_, fun i hi hn => ?_⟩
    · obtain ⟨h3, h4⟩ := h1 i hi
      exact ⟨hD.old i h3, (hD.keep i (.inr h3)).trans h4⟩
    · by_cases h5 : i ∈ (schK l most (trn l) (e + m)).2
      · have := h2 i h5 hn
        rw [show e + (m + 1) = e + m + 1 by omega, hD.keep i (.inr h5)]; exact this
      · have := (hD.new i hi h5).2.1
        rw [show e + (m + 1) = e + m + 1 by omega, this]; omega
theorem runL_le_all {l : List Tk} (hP : okP l) (out : List Int) (B : List Nat) (d : Int) : runL l out B d ≤ sN (mnA l) l.length := sN_le fun k hk => by
  have := (mnA_bd hP hk).1
  unfold rnF; split <;> omega
theorem LST_ample {l : List Tk} {most : Int} (hP : okP l) (hm : sN (mnA l) l.length ≤ most) : LST l most = ear l := by
  have hme : ∀ i, i < l.length → mnA l i ≤ most := fun i hi => Int.le_trans (sN_one (mnA l) hi fun k hk => by have := (mnA_bd hP hk).1; omega) hm
  have hL := LST_is hP hme
  have hlow := hL.ear hP
  obtain ⟨D, hR, hin, hf⟩ := sch_first hP hme
  rw [← sch_done hP (hR D (Nat.le_refl _)) hf] at hL hlow ⊢
  have hfull := fun i (hi : i < l.length) => (hR D (Nat.le_refl _)).inv.full hf hi
  refine gI_ext (by rw [hL.len, ear_len]) fun i hi => ?_
  rw [hL.len] at hi
  revert i
  refine ord_ind hP fun i hi ih => ?_
  apply Classical.byContradiction
  intro hne
  have h1 := hlow i hi
  have h2 := ((hR D (Nat.le_refl _)).inv.early i (hfull i hi)).2
  obtain ⟨e, he⟩ : ∃ e : Nat, (e : Int) = gI (ear l) i := ⟨(gI (ear l) i).toNat, by have := ear_pos hP i; omega⟩
  have heD : e < D := by omega
  obtain ⟨m, hmm⟩ : ∃ m, D = e + m := ⟨D - e, by omega⟩
  have hp := sch_pers hP hme (e := e) m fun d hd => hR d (by omega)
  rw [← hmm] at hp
  have hRe := hR e (by omega)
  have hie : i ∉ (schK l most (trn l) e).2 := fun hh => by
    have h3 := (hp.1 i hh).2
    have h4 := (hRe.inv.early i hh).2
    omega
  have hae : ∀ a ∈ afs l i, a ∈ (schK l most (trn l) e).2 ∧ gI (schK l most (trn l) e).1 a + dyA l a ≤ e := fun a ha => by
    have hal := afs_lt hP hi ha
    have h3 := ear_le hP hi ha
    have h4 := ih a ha
    have h5 := (dy_bd hP hal).1
    have h6 : a ∈ (schK l most (trn l) e).2 := Classical.byContradiction fun hh => by
      have := hp.2 a (hfull a hal) hh; omega
    refine ⟨h6, ?_⟩
    rw [← (hp.1 a h6).2]; omega
  have hT := trn_is hP
  have hm0 : 0 ≤ most := by have := hme i hi; have := (mnA_bd hP hi).1; omega
  have hnow : i ∈ (schK l most (trn l) (e + 1)).2 := by
    obtain ⟨pre, post, hsp⟩ := List.append_of_mem ((hT.mem i).2 hi)
    have hnd := hT.nd
    rw [hsp] at hnd
    have hDp := Day.fold (post := pre) (pre := []) (most := most) (d := e) (s := schK l most (trn l) e) (t := schK l most (trn l) e) hP hRe.inv.len (by simpa using (List.nodup_append.1 hnd).1) (fun j hj => (hT.mem j).1 (by rw [hsp]; exact List.mem_append_left _ hj)) (Day.begin hP hRe.inv hRe.inv2 hm0)
    rw [List.nil_append] at hDp
    generalize hq : pre.foldl (stR l most e) (schK l most (trn l) e) = q at hDp
    have hfin : schK l most (trn l) (e + 1) = post.foldl (stR l most e) (stR l most e q i) := by
      show dayR l most (trn l) e (schK l most (trn l) e) = _
      unfold dayR
      conv => lhs; arg 3; rw [hsp]
      rw [List.foldl_append, hq]; rfl
    rw [hfin]
    apply fold_grow
    have hip : i ∉ pre := fun hh => (List.nodup_append.1 hnd).2.2 i hh i (List.mem_cons_self ..) rfl
    have hr : rdD l q.1 q.2 e i = true := by
      rw [hDp.rd hP hi hip, rdD_iff]
      exact ⟨hie, hae⟩
    have hni : i ∉ q.2 := (rdD_iff.1 hr).1
    have h6 := runL_add hP (out := q.1) (B := q.2) (d := e) (i := i) (by rw [hDp.len]; exact hRe.inv.len) hi hni
    have h7 := runL_le_all hP (q.1.set i e) (q.2 ++ [i]) e
    unfold stR
    rw [if_pos (by rw [hr]; simp; omega)]
    simp
  have h8 := (hRe.day hP hme).new i hnow hie
  obtain ⟨m2, hm2⟩ : ∃ m2, D = e + 1 + m2 := ⟨D - e - 1, by omega⟩
  have hp2 := sch_pers hP hme (e := e + 1) m2 fun d hd => hR d (by omega)
  rw [← hm2] at hp2
  have h9 := (hp2.1 i hnow).2
  rw [h8.2.1] at h9
  omega
end Go.Proofs.Ytgijekhlbkfanaa

namespace Go.Proofs.Ytgijekhlbkfanaa
open Go.RowKit Go.Shelf Go.Maps
attribute [local go_sem] Later.cell Same.cell

theorem nan_any (a : Int) (w : World) : Calls Try.prog 115 #[.int .i64 a] w fun e w' => e = .returned (.bool false) ∧ w = w' := by
  go_enter Try.func115, Try.ntmps115
  go_wp2
  go_ret
  exact ⟨by simp, rfl⟩
def cmpV (a b : Int) : Int := if a < b then -1 else if b < a then 1 else 0
theorem cmpV_neg {a b : Int} : cmpV a b < 0 ↔ a < b := by
  unfold cmpV
  by_cases h1 : a < b
  · rw [if_pos h1]; omega
  · rw [if_neg h1]
    by_cases h2 : b < a
    · rw [if_pos h2]; omega
    · rw [if_neg h2]; omega
set_option maxHeartbeats 1000000 in
theorem cmpI_any (a b : Int) (w : World) : Calls Try.prog 91 #[.int .i64 a, .int .i64 b] w fun e w' => e = .returned (.int .i64 (cmpV a b)) ∧ w = w' := by
  go_enter Try.func91, Try.ntmps91
  by_cases h1 : a < b
  · have hv : Hid (cmpV a b = -1) := Lib.hid (if_pos h1)
    go_wp2_with (first | (go_at_call 115; refine (nan_any _ _).mono ?_; rintro e w1 ⟨rfl, rfl⟩))
    go_ret
    exact ⟨by rw [hv.out]; rfl, rfl⟩
  · by_cases h2 : b < a
    · have hv : Hid (cmpV a b = 1) := Lib.hid (by unfold cmpV; rw [if_neg h1, if_pos h2])
      go_wp2_with (first | (go_at_call 115; refine (nan_any _ _).mono ?_; rintro e w1 ⟨rfl, rfl⟩))
      go_ret
      exact ⟨by rw [hv.out]; rfl, rfl⟩
    · have hv : Hid (cmpV a b = 0) := Lib.hid (by unfold cmpV; rw [if_neg h1, if_neg h2])
      go_wp2_with (first | (go_at_call 115; refine (nan_any _ _).mono ?_; rintro e w1 ⟨rfl, rfl⟩))
      go_ret
      exact ⟨by rw [hv.out]; rfl, rfl⟩
/-- The cell of the latest days, and these. -/
def LateAt (w : World) (Bp gl nl capl : Nat) (late : List Int) : Prop := w.cell? ⟨Bp, 0, none⟩ = some (.slice (some ⟨gl, 0, none⟩) nl capl) ∧ ∀ k, k < nl → w.cell? ⟨gl, k, none⟩ = some (.int .i64 (gI late k))
theorem LateAt.kg {w w' : World} {Bp gl nl capl g : Nat} {late : List Int} (h : LateAt w Bp gl nl capl late) (hk : KG g w w') (h1 : Bp ≠ g) (h2 : gl ≠ g) : LateAt w' Bp gl nl capl late :=
  ⟨(World.cell?_of_block (a := ⟨Bp, 0, none⟩) (hk.2 Bp h1)).trans h.1, fun k hk' => (World.cell?_of_block (a := ⟨gl, k, none⟩) (hk.2 gl h2)).trans (h.2 k hk')⟩
set_option maxHeartbeats 1000000 in
theorem late_cmp_any (Bp gl nl capl : Nat) (late : List Int) (a b : Nat) (w : World) (ha : a < nl) (hb : b < nl) (hn : nl ≤ 1000) (hL : LateAt w Bp gl nl capl late) :
    Calls Try.prog 90 #[.int .i64 a, .int .i64 b, .pointer (some ⟨Bp, 0, none⟩)] w fun e w' => e = .returned (.int .i64 (cmpV (gI late a) (gI late b))) ∧ Below w.heap.size w w' := by
  obtain ⟨h0, h1⟩ := hL
  have h2 := h1 a ha
  have h3 := h1 b hb
  have hg : gl < w.heap.size := World.block_lt_of_cell? w _ h2
  have hp : Bp < w.heap.size := World.block_lt_of_cell? w _ h0
  have a1 : (a : Int) < nl := by omega
  have a2 : ¬ nl ≤ a := by omega
  have b1 : (b : Int) < nl := by omega
  have b2 : ¬ nl ≤ b := by omega
  clear h1
  go_enter Try.func90, Try.ntmps90
  go_wp2_with fail
  (refine wp_region_later (by kernel_rfl) (by kernel_rfl) ?_; (repeat (go_big_quiet_step ((go_at_call 91; exact later_same (cmpI_any _ _ _))))); refine wpQuiet_nil ?_)
  intro w3 hb3
  go_wp2
  go_ret
  exact ⟨rfl, hb3⟩

theorem gI_mid {a : List Nat} {x : Nat} {rest : List Nat} : gI (iN (a ++ x :: rest)) a.length = (x : Int) := by
  unfold gI iN; simp
theorem iN_swap {a : List Nat} {y x : Nat} {rest : List Nat} : ((iN (a ++ y :: x :: rest)).set (a.length + 1) (y : Int)).set a.length (x : Int) = iN (a ++ x :: y :: rest) := by
  unfold iN
  induction a with
  | nil => simp
  | cons b a ih => simp
theorem iN_swap2 {a : List Nat} {y x : Nat} {rest : List Nat} : ((iN (a ++ y :: x :: rest)).set a.length (x : Int)).set (a.length + 1) (y : Int) = iN (a ++ x :: y :: rest) := by
  unfold iN
  induction a with
  | nil => simp
  | cons b a ih => simp
/-- The row behind the insertion of its first k. -/
def insK (late : List Int) (xs : List Nat) (k : Nat) : List Nat := isortV late (xs.take k) ++ xs.drop k
theorem insK_one {late : List Int} {xs : List Nat} : insK late xs 1 = xs := by
  cases xs with
  | nil => rfl
  | cons x xs => rfl
theorem insK_end {late : List Int} {xs : List Nat} {k : Nat} (h : xs.length ≤ k) : insK late xs k = isortV late xs := by
  unfold insK; rw [List.take_of_length_le h, List.drop_eq_nil_of_le h, List.append_nil]
theorem insK_split {late : List Int} {xs : List Nat} {k : Nat} (h : k < xs.length) : ∃ a x rest, a.length = k ∧ insK late xs k = a ++ x :: rest ∧ insV late a.reverse x ++ rest = insK late xs (k + 1) := by
  refine ⟨isortV late (xs.take k), xs[k], xs.drop (k + 1), ?_, ?_, ?_⟩
  · rw [isortV_len, List.length_take]; omega
  · unfold insK; rw [List.drop_eq_getElem_cons h]
  · unfold insK
    rw [List.take_succ_eq_append_getElem h]
    unfold isortV
    rw [List.foldl_append]; rfl
theorem grown_set (W : World) (g i : Nat) (v : Value) : W.grownBy (W.setCell ⟨g, i, none⟩ v) (some g) := ⟨rfl, rfl, rfl, by rw [World.size_setCell]; exact Nat.le_refl _, fun b _ hb => Below.heap_setCell W ⟨g, i, none⟩ v b (fun e => hb (by rw [e]))⟩
structure SoR (w : World) (base g n cap Bp gl nl capl : Nat) (late : List Int) (ys : List Nat) (W : World) : Prop where
  own : W.ownsRow base 3 1 (.slice (some ⟨g, 0, none⟩) n cap) n (icells (iN ys))
  kg : w.grownBy W (some g)
  lat : LateAt W Bp gl nl capl late
  lt : ∀ x ∈ ys, x < nl
theorem LateAt.later {w w' : World} {Bp gl nl capl : Nat} {late : List Int} (h : LateAt w Bp gl nl capl late) (hb : Below w.heap.size w w') : LateAt w' Bp gl nl capl late :=
  ⟨(hb.cell (p := ⟨Bp, 0, none⟩) (World.block_lt_of_cell? w _ h.1)).trans h.1, fun k hk => (hb.cell (p := ⟨gl, k, none⟩) (World.block_lt_of_cell? w _ (h.2 k hk))).trans (h.2 k hk)⟩
theorem SoR.later {w : World} {base g n cap Bp gl nl capl : Nat} {late : List Int} {ys : List Nat} {W W' : World} (h : SoR w base g n cap Bp gl nl capl late ys W) (hb : Below W.heap.size W W') : SoR w base g n cap Bp gl nl capl late ys W' :=
  ⟨jown_later h.own hb, h.kg.trans ⟨hb.os, hb.tape, hb.output, hb.size, fun k hk _ => hb.block k hk⟩, h.lat.later hb, h.lt⟩
theorem SoR.swap {w : World} {base g n cap Bp gl nl capl : Nat} {late : List Int} {a rest : List Nat} {x y : Nat} {W : World} (h : SoR w base g n cap Bp gl nl capl late (a ++ y :: x :: rest) W) (h1 : Bp ≠ g) (h2 : gl ≠ g) :
    SoR w base g n cap Bp gl nl capl late (a ++ x :: y :: rest) ((W.setCell ⟨g, a.length + 1, none⟩ (.int .i64 y)).setCell ⟨g, a.length, none⟩ (.int .i64 x)) ∧ SoR w base g n cap Bp gl nl capl late (a ++ x :: y :: rest) ((W.setCell ⟨g, a.length, none⟩ (.int .i64 x)).setCell ⟨g, a.length + 1, none⟩ (.int .i64 y)) := by
  have hl : ∀ z ∈ a ++ x :: y :: rest, z < nl := fun z hz => h.lt z (by simp at hz ⊢; rcases hz with h | h | h | h <;> simp [h])
  have k1 := ((KG.refl g W).set (a.length + 1) (.int .i64 y)).set a.length (.int .i64 x)
  have k2 := ((KG.refl g W).set a.length (.int .i64 x)).set (a.length + 1) (.int .i64 y)
  have g1 := fun (V : World) i v => grown_set V g i v
  refine ⟨⟨?_, (h.kg.trans (g1 W _ _)).trans (g1 _ _ _), h.lat.kg k1 h1 h2, hl⟩, ⟨?_, (h.kg.trans (g1 W _ _)).trans (g1 _ _ _), h.lat.kg k2 h1 h2, hl⟩⟩
  · rw [← iN_swap]
    exact (jown_store (jown_store h.own (a.length + 1) y).1 a.length x).1
  · rw [← iN_swap2]
    exact (jown_store (jown_store h.own a.length x).1 (a.length + 1) y).1
theorem SoR.drew {w : World} {base g n cap Bp gl nl capl : Nat} {late : List Int} {ys : List Nat} {W : World} (h : SoR w base g n cap Bp gl nl capl late ys W) : SoR w base g n cap Bp gl nl capl late ys W.drew := h.later (Below.refl _ _).drew
set_option maxRecDepth 20000 in
set_option maxHeartbeats 8000000 in
theorem isort_any (base g n cap Bp gl nl capl : Nat) (late : List Int) (xs : List Nat) (w : World) (hn : n ≤ 1000) (hn0 : 1 ≤ n) (hnl : nl ≤ 1000) (ho : w.ownsRow base 3 1 (.slice (some ⟨g, 0, none⟩) n cap) n (icells (iN xs)))
    (hL : LateAt w Bp gl nl capl late) (h1 : Bp ≠ g) (h2 : gl ≠ g) (hlt : ∀ x ∈ xs, x < nl) :
    Calls Try.prog 121 #[.slice (some ⟨g, 0, none⟩) n cap, .int .i64 0, .int .i64 n, .func (.func 90) #[] #[.pointer (some ⟨Bp, 0, none⟩)]] w fun e w' => e = .returned (.tuple #[]) ∧ SoR w base g n cap Bp gl nl capl late (isortV late xs) w' := by
  have hxl : xs.length = n := by have := jown_lt ho; rw [iN_len] at this; exact this
  have H0 : Hid (SoR w base g n cap Bp gl nl capl late (insK late xs 1) w) := Lib.hid (by rw [insK_one]; exact ⟨ho, ⟨rfl, rfl, rfl, Nat.le_refl _, fun _ _ _ => rfl⟩, hL, hlt⟩)
  have hxl2 := Lib.hid hxl
  have H1 := Lib.hid h1
  have H2 := Lib.hid h2
  clear ho hL hlt hxl h1 h2
  go_enter Try.func121, Try.ntmps121
  go_wp2
  go_loopw [8] (fun i W => ∃ k : Nat, (1 ≤ k ∧ k ≤ n) ∧ i = .int .i64 k ∧ Hid (SoR w base g n cap Bp gl nl capl late (insK late xs k) W)) (fun i _ => n - (intOf i).toNat)
  case atStart => exact ⟨1, ⟨Nat.le_refl _, hn0⟩, rfl, H0⟩
  case round =>
    clear H0
    obtain ⟨k, ⟨hk1, hk2⟩, rfl, HE⟩ := hrel
    by_cases hlt : k < n
    · obtain ⟨a, x, rest, ha, hs, ht⟩ := insK_split (late := late) (xs := xs) (k := k) (by rw [hxl2.out]; exact hlt)
      rw [hs] at HE
      have HT := Lib.hid ht
      have hk3 : (k : Int) < n := by omega
      have HA := Lib.hid ha
      clear hs ht ha
      go_wp2
      go_loopw [9] (fun j W => ∃ (a : List Nat) (x : Nat) (rest : List Nat) (q : Nat), Hid (a.length = q) ∧ (q ≤ k) ∧ j = .int .i64 q ∧ Hid (insV late a.reverse x ++ rest = insK late xs (k + 1)) ∧ Hid (SoR w base g n cap Bp gl nl capl late (a ++ x :: rest) W)) (fun j _ => (intOf j).toNat)
      case atStart => exact ⟨a, x, rest, k, HA, Nat.le_refl _, rfl, HT, HE⟩
      case round =>
        clear HE HT HA
        clear a x rest
        obtain ⟨a, x, rest, q, HA, hqk, rfl, HT, HE⟩ := hrel
        rcases Nat.eq_zero_or_pos q with hq0 | hq0
        · have HF : Hid (SoR w base g n cap Bp gl nl capl late (insK late xs (k + 1)) wr) := Lib.hid (by
            have ha : a = [] := List.eq_nil_of_length_eq_zero (by rw [HA.out, hq0])
            rw [← HT.out]
            have := HE.out
            rw [ha] at this ⊢
            exact this)
          subst hq0
          clear HE HT HA
          go_wp2_with fail
          (refine wp_region_later (by kernel_rfl) (by kernel_rfl) ?_; (repeat (go_big_quiet_step ((fail)))); refine wpQuiet_nil ?_)
          intro w3 hb3
          go_wp2
          go_roundw
          case rel => exact ⟨k + 1, ⟨by omega, by omega⟩, by go_num, Lib.hid (HF.out.later hb3)⟩
          case measure => simp [intOf]; omega
        · obtain ⟨a', y, rfl⟩ : ∃ a' y, a = a' ++ [y] := by
            rcases List.eq_nil_or_concat a with rfl | ⟨a', y, rfl⟩
            · have := HA.out; simp at this; omega
            · exact ⟨a', y, by rw [List.concat_eq_append]⟩
          obtain ⟨r, hr⟩ : ∃ r, r = a'.length := ⟨_, rfl⟩
          have hqr : q = r + 1 := by have := HA.out; simp at this; omega
          have HE2 : Hid (SoR w base g n cap Bp gl nl capl late (a' ++ y :: x :: rest) wr) := Lib.hid (by have := HE.out; simpa using this)
          obtain ⟨hgs, -, hgc, hgf⟩ := jown_at HE2.out.own
          have hrn : r + 1 < n := by omega
          have hc1 := hgc r (by omega)
          have hc2 := hgc (r + 1) (by omega)
          have hf1 := hgf r
          have hf2 := hgf (r + 1)
          have e1 : gI (iN (a' ++ y :: x :: rest)) r = y := by rw [hr]; exact gI_mid
          have e2 : gI (iN (a' ++ y :: x :: rest)) (r + 1) = x := by rw [hr]; have := gI_mid (a := a' ++ [y]) (x := x) (rest := rest); simpa using this
          rw [e1] at hc1
          rw [e2] at hc2
          have hxl : x < nl := HE2.out.lt x (by simp)
          have hyl : y < nl := HE2.out.lt y (by simp)
          have hcmp := fun W (h : Below wr.heap.size wr W) => late_cmp_any Bp gl nl capl late x y W hxl hyl hnl (HE2.out.lat.later h)
          have HCM := Lib.hid hcmp
          have hlf := HT.out
          rw [List.reverse_append] at hlf
          change insV late (y :: a'.reverse) x ++ rest = _ at hlf
          rw [insV] at hlf
          have HR := Lib.hid hr
          subst hqr
          have z1 : (r : Int) + 1 < n := by omega
          have z2 : (r : Int) < n := by omega
          have z3 : (0 : Int) < (r : Int) + 1 := by omega
          have z4 : (0 : Int) ≤ (r : Int) + 1 := by omega
          have z5 : ((r : Int) + 1).toNat = r + 1 := by omega
          have hnn : n ≤ 9223372036854775807 := by omega
          have hwr2 : wrap64 (r : Int) = (r : Int) := IntWalk.wrap64_in _ ⟨by omega, by omega⟩
          by_cases hv : gI late x < gI late y
          · rw [if_pos hv] at hlf
            have hcv : cmpV (gI late x) (gI late y) < 0 := cmpV_neg.2 hv
            have HTT : Hid (insV late a'.reverse x ++ y :: rest = insK late xs (k + 1)) := Lib.hid (by rw [← hlf]; simp)
            generalize cmpV (gI late x) (gI late y) = CV at *
            clear hlf hv HT HE HA hgc hgf e1 e2 hr hcmp
            go_wp2_with fail
            (refine wp_region_later (by kernel_rfl) (by kernel_rfl) ?_; (repeat (go_big_quiet_step ((go_at_call 90; exact later_call (HCM.out _ (‹Later _›).h))))); refine wpQuiet_nil ?_)
            intro w3 hb3
            have HSW := Lib.hid ((HE2.out.later hb3).drew.swap H1.out H2.out)
            have d1 := (hb3.cell (p := ⟨g, r, none⟩) hgs).trans hc1
            have d2 := (hb3.cell (p := ⟨g, r + 1, none⟩) hgs).trans hc2
            have k1 := (hb3.frozen (p := ⟨g, r, none⟩) hgs).trans hf1
            have k2 := (hb3.frozen (p := ⟨g, r + 1, none⟩) hgs).trans hf2
            obtain ⟨r1, hr1⟩ : ∃ r1, r1 = r + 1 := ⟨_, rfl⟩
            rw [← hr1] at d2 k2 z5
            have HR1 := Lib.hid hr1
            clear HE2 HCM hc1 hc2 hf1 hf2 hb3 hcv hr1
            go_wp2_with fail
            go_big_region
            all_goals go_wp2
            all_goals go_roundw
            case rel => exact ⟨a', x, y :: rest, r, Lib.hid HR.out.symm, by omega, rfl, HTT, Lib.hid (by rw [HR1.out, HR.out]; first | exact HSW.out.1 | exact HSW.out.2)⟩
            case measure => simp [intOf]
          · have HF : Hid (SoR w base g n cap Bp gl nl capl late (insK late xs (k + 1)) wr) := Lib.hid (by
              rw [if_neg hv] at hlf
              rw [← hlf]
              have := HE.out
              simpa using this)
            have hcv : ¬ cmpV (gI late x) (gI late y) < 0 := fun hh => hv (cmpV_neg.1 hh)
            generalize cmpV (gI late x) (gI late y) = CV at *
            clear hlf hv HT HE HA hgc hgf e1 e2 hr hcmp
            go_wp2_with fail
            (refine wp_region_later (by kernel_rfl) (by kernel_rfl) ?_; (repeat (go_big_quiet_step ((go_at_call 90; exact later_call (HCM.out _ (‹Later _›).h))))); refine wpQuiet_nil ?_)
            intro w3 hb3
            have HF3 := Lib.hid (HF.out.later hb3)
            clear HE2 HCM hc1 hc2 hf1 hf2 hb3 HF
            go_wp2
            go_roundw
            case rel => exact ⟨k + 1, ⟨by omega, by omega⟩, by go_num, HF3⟩
            case measure => simp [intOf]; omega
    · have hk : ¬ (k : Int) < n := by omega
      have HF : Hid (SoR w base g n cap Bp gl nl capl late (isortV late xs) wr) := Lib.hid (by rw [← insK_end (k := k) (by rw [hxl2.out]; omega)]; exact HE.out)
      clear HE
      go_wp2
      go_end0
      exact ⟨rfl, HF.out⟩
set_option maxHeartbeats 2000000 in
theorem isort0_any (A : Option Addr) (cap : Nat) (f : Value) (w : World) :
    Calls Try.prog 121 #[.slice A 0 cap, .int .i64 0, .int .i64 0, f] w fun e w' => e = .returned (.tuple #[]) ∧ w = w' := by
  go_enter Try.func121, Try.ntmps121
  go_wp2
  go_loopw [8] (fun i W => i = .int .i64 1 ∧ w = W) (fun i _ => 0)
  case atStart => exact ⟨rfl, rfl⟩
  case round =>
    obtain ⟨rfl, rfl⟩ := hrel
    go_wp2
    go_end0
    exact ⟨rfl, rfl⟩
set_option maxHeartbeats 4000000 in
theorem stable_any (base n cap Bp gl nl capl : Nat) (A : Option Addr) (late : List Int) (xs : List Nat) (w : World) (hn : n < 20) (hnl : nl ≤ 1000) (ho : w.ownsRow base 3 1 (.slice A n cap) n (icells (iN xs)))
    (hL : LateAt w Bp gl nl capl late) (h1 : some Bp ≠ (Value.slice A n cap).ownBlock) (h2 : some gl ≠ (Value.slice A n cap).ownBlock) (hlt : ∀ x ∈ xs, x < nl) :
    Calls Try.prog 89 #[.slice A n cap, .func (.func 90) #[] #[.pointer (some ⟨Bp, 0, none⟩)]] w fun e w' => e = .returned (.tuple #[]) ∧ w'.ownsRow base 3 1 (.slice A n cap) n (icells (iN (isortV late xs))) ∧ w.grownBy w' (Value.slice A n cap).ownBlock := by
  have hxl : xs.length = n := by have := jown_lt ho; rw [iN_len] at this; exact this
  have key : ∀ W, w = W → Calls Try.prog 121 #[.slice A n cap, .int .i64 0, .int .i64 n, .func (.func 90) #[] #[.pointer (some ⟨Bp, 0, none⟩)]] W fun e w' => e = .returned (.tuple #[]) ∧ w'.ownsRow base 3 1 (.slice A n cap) n (icells (iN (isortV late xs))) ∧ W.grownBy w' (Value.slice A n cap).ownBlock := by
    rintro W rfl
    rcases Nat.eq_zero_or_pos n with h0 | h0
    · subst h0
      have hx : xs = [] := List.eq_nil_of_length_eq_zero hxl
      refine (isort0_any A cap _ w).mono ?_
      rintro e w' ⟨rfl, rfl⟩
      refine ⟨rfl, ?_, ⟨rfl, rfl, rfl, Nat.le_refl _, fun _ _ _ => rfl⟩⟩
      rw [hx] at ho ⊢
      exact ho
    · obtain ⟨g, rfl⟩ : ∃ g, A = some ⟨g, 0, none⟩ := by
        rcases ho.2 with ⟨h', _, h3, _⟩ | ⟨g', cap', cur, h', _⟩
        · exfalso
          rw [Value.slice.injEq] at h'
          omega
        · rw [Value.slice.injEq] at h'
          exact ⟨g', h'.1⟩
      refine (isort_any base g n cap Bp gl nl capl late xs w (by omega) h0 hnl ho hL (fun e => h1 (by rw [e]; rfl)) (fun e => h2 (by rw [e]; rfl)) hlt).mono ?_
      rintro e w' ⟨rfl, hS⟩
      exact ⟨rfl, hS.own, hS.kg⟩
  have K1 := Lib.hid key
  have hn1 : ¬ 20 ≤ n := by omega
  have hn2 : ¬ (20 : Int) ≤ n := by omega
  have hn3 : ¬ (20 : Int) < n := by omega
  clear key ho hL h1 h2 hlt hxl
  have key2 : Calls Try.prog 114 #[.slice A n cap, .int .i64 n, .func (.func 90) #[] #[.pointer (some ⟨Bp, 0, none⟩)]] w fun e w' => e = .returned (.tuple #[]) ∧ w'.ownsRow base 3 1 (.slice A n cap) n (icells (iN (isortV late xs))) ∧ w.grownBy w' (Value.slice A n cap).ownBlock := by
    go_enter Try.func114, Try.ntmps114
    go_wp2
    go_loopw [7, 8] (fun x y W => x = .int .i64 0 ∧ y = .int .i64 20 ∧ w = W) (fun _ _ _ => 0)
    case atStart => exact ⟨rfl, rfl, rfl⟩
    case round =>
      obtain ⟨rfl, rfl, rfl⟩ := hrel
      go_wp2_with fail
      refine (K1.out _ rfl).mono ?_
      rintro e w' ⟨rfl, hR⟩
      have HR := Lib.hid hR
      clear hR
      go_wp2
      go_loopw [6] (fun x W => x = .int .i64 20 ∧ w' = W) (fun _ _ => 0)
      case atStart => exact ⟨rfl, rfl⟩
      case round =>
        obtain ⟨rfl, rfl⟩ := hrel
        go_wp2
        go_end0
        exact ⟨rfl, HR.out⟩
  have K2 := Lib.hid key2
  clear key2 K1
  go_enter Try.func89, Try.ntmps89
  go_wp2_with fail
  refine K2.out.mono ?_
  rintro e w' ⟨rfl, hR⟩
  have HR := Lib.hid hR
  clear hR
  go_wp2
  go_end0
  exact ⟨rfl, HR.out⟩
end Go.Proofs.Ytgijekhlbkfanaa

namespace Go.Proofs.Ytgijekhlbkfanaa
open Go.RowKit Go.Shelf
attribute [local go_sem] Later.cell Same.cell

/-- Are there tasks that ask more men? -/
def many1 (l : List Tk) (c : Int) : Bool := (List.range l.length).any fun i => decide (c < mnA l i)
theorem many1_iff {l : List Tk} {c : Int} : many1 l c = true ↔ ∃ i, i < l.length ∧ c < mnA l i := by unfold many1; simp
def crewE (l : List Tk) (c : Int) : Int := if checkE l = 0 then (if wi c 1 100 = true then (if many1 l c = true then 8 else 0) else 7) else checkE l
set_option maxHeartbeats 1000000 in
theorem crew1_any (X : ByteArray) (Y Z : Int) (A' : Option Addr) (q cc : Nat) (B : Nat) (c : Int) (w : World) (hc : w.cell? ⟨B, 0, none⟩ = some (.int .i64 c)) :
    Calls Try.prog 111 #[.agg #[.string X, .int .i64 Y, .int .i64 Z, .slice A' q cc], .pointer (some ⟨B, 0, none⟩)] w fun e w' => e = .returned (.bool (decide (c < Z))) ∧ Below w.heap.size w w' := by
  have hB := World.block_lt_of_cell? w _ hc
  go_enter Try.func111, Try.ntmps111
  go_wp2
  go_ret
  exact ⟨rfl, (by repeat (first | exact Below.refl _ _ | assumption | refine Below.setCell ?_ (by first | (simp; done) | (simp; omega) | omega) _ | refine Below.drew ?_ | refine below_drewN ?_ _ | refine Below.alloc ?_ (by first | (simp; done) | (simp; omega) | omega) _ | refine below_alloc ?_ _ | refine below_step ?_ (by assumption)))⟩
set_option maxRecDepth 20000 in
set_option maxHeartbeats 2000000 in
theorem crewIdx_any (B : Nat) (c : Int) (A : Option Addr) (len cap : Nat) (l : List Tk) (w : World) (hm : len ≤ 1000) (hx : Plan w w.heap.size A len l) (hc : w.cell? ⟨B, 0, none⟩ = some (.int .i64 c)) :
    Calls Try.prog 120 #[.slice A len cap, .func (.func 111) #[] #[.pointer (some ⟨B, 0, none⟩)]] w fun e w' => (∃ R : Int, e = .returned (.int .i64 R) ∧ decide (0 ≤ R) = many1 l c) ∧ Below w.heap.size w w' := by
  obtain rfl : l.length = len := hx.1
  have HX := Lib.hid hx
  have HB := World.block_lt_of_cell? w _ hc
  clear hx
  go_enter Try.func120, Try.ntmps120
  go_wp2
  go_loopw [8] (fun i W => ∃ k : Nat, k ≤ l.length ∧ i = .int .i64 k ∧ Hid (∀ j, j < k → mnA l j ≤ c) ∧ Below w.heap.size w W) (fun i _ => l.length - (intOf i).toNat)
  case atStart => exact ⟨0, Nat.zero_le _, rfl, Lib.hid (fun j hj => absurd hj (by omega)), Below.refl _ _⟩
  case round =>
    obtain ⟨k, hk, rfl, hT, hB⟩ := hrel
    by_cases hlt : k < l.length
    · obtain ⟨b, off, rfl, hb0, hc1, hc2, hc3, A', q, cc, hc4, -, -, -⟩ := (HX.out.below hB).at_ k hlt
      have hbs := hB.size
      have hcB := (hB.cell (p := ⟨B, 0, none⟩) HB).trans hc
      have c2 := fun W (h : Below wr.heap.size wr W) => crew1_any (tkA l k).nm (tkA l k).dy (tkA l k).mn A' q cc B c W ((h.cell (p := ⟨B, 0, none⟩) (show B < _ by omega)).trans hcB)
      have hk1 : (k : Int) < l.length := by omega
      have hk2 : ¬ l.length ≤ k := by omega
      have hbr : b < wr.heap.size := by omega
      by_cases hv : c < (tkA l k).mn
      · have HF : Hid (decide ((0 : Int) ≤ (k : Int)) = many1 l c) := Lib.hid (by rw [many1_iff.2 ⟨k, hlt, hv⟩]; simp)
        generalize (tkA l k).nm = X at *
        generalize (tkA l k).dy = Y at *
        generalize (tkA l k).mn = Z at *
        have C2 := Lib.hid c2
        clear c2 hT
        go_wp2_with fail
        refine (C2.out _ (by repeat (first | exact Below.refl _ _ | assumption | refine Below.setCell ?_ (by first | (simp; done) | (simp; omega) | omega) _ | refine Below.drew ?_ | refine below_drewN ?_ _ | refine Below.alloc ?_ (by first | (simp; done) | (simp; omega) | omega) _ | refine below_alloc ?_ _ | refine below_step ?_ (by assumption)))).mono ?_
        rintro e w1 ⟨rfl, hb⟩
        have HB2 := Lib.hid (hB.trans (hb.mono hbs))
        clear hb hB hcB
        go_wp2
        go_ret
        exact ⟨⟨_, rfl, HF.out⟩, HB2.out⟩
      · have hT2 : Hid (∀ j, j < k + 1 → mnA l j ≤ c) := Lib.hid (fun j hj => if e : j = k then (by rw [e]; exact Int.not_lt.1 hv) else hT.out j (by omega))
        generalize (tkA l k).nm = X at *
        generalize (tkA l k).dy = Y at *
        generalize (tkA l k).mn = Z at *
        have C2 := Lib.hid c2
        clear c2 hT
        go_wp2_with fail
        refine (C2.out _ (by repeat (first | exact Below.refl _ _ | assumption | refine Below.setCell ?_ (by first | (simp; done) | (simp; omega) | omega) _ | refine Below.drew ?_ | refine below_drewN ?_ _ | refine Below.alloc ?_ (by first | (simp; done) | (simp; omega) | omega) _ | refine below_alloc ?_ _ | refine below_step ?_ (by assumption)))).mono ?_
        rintro e w1 ⟨rfl, hb⟩
        have HB2 := Lib.hid (hB.trans (hb.mono hbs))
        clear hb hB hcB
        go_wp2
        go_roundw
        case rel => exact ⟨k + 1, by omega, by go_num, hT2, HB2.out⟩
        case measure => simp [intOf]; omega
    · have hk1 : ¬ (k : Int) < l.length := by omega
      have HF : Hid (decide ((0 : Int) ≤ -1) = many1 l c) := Lib.hid (by
        cases hq : many1 l c with
        | false => rfl
        | true =>
          obtain ⟨i, hi, h2⟩ := many1_iff.1 hq
          exact absurd h2 (Int.not_lt.2 (hT.out i (by omega))))
      have HB2 := Lib.hid hB
      clear hT hB
      go_wp2
      go_ret
      exact ⟨⟨_, rfl, HF.out⟩, HB2.out⟩
set_option maxHeartbeats 1000000 in
theorem crewAny_any (B : Nat) (c : Int) (A : Option Addr) (len cap : Nat) (l : List Tk) (w : World) (hm : len ≤ 1000) (hx : Plan w w.heap.size A len l) (hc : w.cell? ⟨B, 0, none⟩ = some (.int .i64 c)) :
    Calls Try.prog 110 #[.slice A len cap, .func (.func 111) #[] #[.pointer (some ⟨B, 0, none⟩)]] w fun e w' => e = .returned (.bool (many1 l c)) ∧ Below w.heap.size w w' := by
  have c1 := crewIdx_any B c A len cap l w hm hx hc
  generalize many1 l c = M at *
  have C1 := Lib.hid c1
  clear c1 hx hc
  go_enter Try.func110, Try.ntmps110
  go_wp2_with fail
  refine C1.out.mono ?_
  rintro e w1 ⟨⟨R, rfl, hR⟩, hb⟩
  have HR := Lib.hid hR
  have HB := Lib.hid hb
  clear hR hb
  go_wp2
  go_ret
  exact ⟨ret_bool HR.out, HB.out⟩
set_option maxHeartbeats 2000000 in
theorem crewed_any (A : Option Addr) (len cap : Nat) (l : List Tk) (c : Int) (w : World) (hS : Sml l) (hx : Plan w w.heap.size A len l) :
    Calls Try.prog 87 #[.slice A len cap, .int .i64 c] w fun e w' => e = .returned (.int .i64 (crewE l c)) ∧ Below w.heap.size w w' := by
  obtain rfl : l.length = len := hx.1
  have c1 := fun W (h : Below w.heap.size w W) => Check_any A l.length cap l W hS (hx.go h)
  have c2 := fun W => jwithin_any c 1 100 W
  have c3 := fun B W (h : Below w.heap.size w W) hc => crewAny_any B c A l.length cap l W (by have := hS.len; omega) (hx.go h) hc
  have hmf : ∀ (fn : Fn) (first cap : Array Value) (w : World), (Instr.makeFunc fn first cap).run Try.prog w = .ok (.func fn first cap) w := fun _ _ _ _ => rfl
  have HE : Hid (crewE l c = if checkE l = 0 then (if wi c 1 100 = true then (if many1 l c = true then 8 else 0) else 7) else checkE l) := Lib.hid rfl
  generalize crewE l c = E at *
  generalize hCE : checkE l = CE at *
  have hw : wi c 1 100 = decide (1 ≤ c ∧ c ≤ 100) := rfl
  have C1 := Lib.hid c1
  have C2 := Lib.hid c2
  have C3 := Lib.hid c3
  clear c1 c2 c3 hx hS hCE
  have hlb := (Boxed.new w 3 (.int .i64 c)).cell
  go_enter Try.func87, Try.ntmps87
  go_wp2_with fail
  refine (C1.out _ (by repeat (first | exact Below.refl _ _ | assumption | refine Below.setCell ?_ (by first | (simp; done) | (simp; omega) | omega) _ | refine Below.drew ?_ | refine below_drewN ?_ _ | refine Below.alloc ?_ (by first | (simp; done) | (simp; omega) | omega) _ | refine below_alloc ?_ _ | refine below_step ?_ (by assumption)))).mono ?_
  rintro e w1 ⟨rfl, hb⟩
  have hB1 : Below w.heap.size w w1 := (by repeat (first | exact Below.refl _ _ | assumption | refine Below.setCell ?_ (by first | (simp; done) | (simp; omega) | omega) _ | refine Below.drew ?_ | refine below_drewN ?_ _ | refine Below.alloc ?_ (by first | (simp; done) | (simp; omega) | omega) _ | refine below_alloc ?_ _ | refine below_step ?_ (by assumption)))
  have hlb1 : w1.cell? ⟨w.heap.size, 0, none⟩ = some (.int .i64 c) := (hb.cell (p := ⟨w.heap.size, 0, none⟩) (by simp)).trans hlb
  have HB1 := Lib.hid hB1
  clear hlb hb hB1 C1
  by_cases h0 : CE = 0
  · subst h0
    rw [if_pos rfl] at HE
    have c2 := C2.out
    cases h1 : wi c 1 100
    · rw [h1] at HE c2
      have HF : Hid (E = 7) := Lib.hid (by rw [HE.out]; rfl)
      have C2' := Lib.hid c2
      clear h1 hw c2 C2 HE
      go_wp2_with fail
      refine (C2'.out _).mono ?_
      rintro e w2 ⟨rfl, rfl⟩
      go_wp2_with fail
      go_ret
      exact ⟨by rw [HF.out]; rfl, HB1.out⟩
    · rw [h1] at HE c2
      rw [if_pos rfl] at HE
      have C2' := Lib.hid c2
      clear h1 hw c2 C2
      go_wp2_with fail
      refine (C2'.out _).mono ?_
      rintro e w2 ⟨rfl, rfl⟩
      go_wp2_with fail
      refine (C3.out _ _ HB1.out hlb1).mono ?_
      rintro e w3 ⟨rfl, hb⟩
      have HB3 := Lib.hid (HB1.out.trans (hb.mono HB1.out.size))
      clear hb hlb1
      cases hm : many1 l c
      · rw [hm] at HE
        have HF : Hid (E = 0) := Lib.hid (by rw [HE.out]; rfl)
        go_wp2_with fail
        go_ret
        exact ⟨by rw [HF.out]; rfl, HB3.out⟩
      · rw [hm] at HE
        have HF : Hid (E = 8) := Lib.hid (by rw [HE.out]; rfl)
        go_wp2_with fail
        go_ret
        exact ⟨by rw [HF.out]; rfl, HB3.out⟩
  · have h2 : (CE == 0) = false := by simpa using h0
    have HF : Hid (E = CE) := Lib.hid (by rw [HE.out, if_neg h0])
    clear HE h0 hw
    go_wp2_with fail
    go_ret
    exact ⟨by rw [HF.out]; rfl, HB1.out⟩
end Go.Proofs.Ytgijekhlbkfanaa

namespace Go.Proofs.Ytgijekhlbkfanaa
open Go.RowKit Go.Shelf Go.Maps
attribute [local go_sem] Oper.semAt_some Later.cell Same.cell

theorem pig {α β : Type} {R : α → β → Prop} (hR : ∀ p q q', R p q → R p q' → q = q') : ∀ {qs : List β} {es : List α}, qs.Nodup → (∀ q ∈ qs, ∃ p ∈ es, R p q) → qs.length ≤ es.length
  | [], es, _, _ => Nat.zero_le _
  | q :: qs, es, hn, h => by
    obtain ⟨p, hp, hpq⟩ := h q (List.mem_cons_self ..)
    obtain ⟨h1, h2⟩ := List.nodup_cons.1 hn
    obtain ⟨l1, l2, rfl⟩ := List.append_of_mem hp
    have := pig hR (qs := qs) (es := l1 ++ l2) h2 fun q' hq' => by
      obtain ⟨p', hp', hpq'⟩ := h q' (List.mem_cons_of_mem _ hq')
      rcases List.mem_append.1 hp' with h3 | h3
      · exact ⟨p', List.mem_append_left _ h3, hpq'⟩
      · rcases List.mem_cons.1 h3 with rfl | h3
        · exact absurd (hR p' q q' hpq hpq') (fun e => h1 (e ▸ hq'))
        · exact ⟨p', List.mem_append_right _ h3, hpq'⟩
    rw [List.length_append] at this
    rw [List.length_cons, List.length_append, List.length_cons]
    omega
/-- How many entries a map of names has. -/
theorem maps_size {W : World} {mb n : Nat} {M : ByteArray → Option Bool} (h : MapS W mb n M) (qs : List ByteArray) (hn : qs.Nodup) (hq : ∀ q ∈ qs, (M q).isSome = true) : ∃ D : DataW Unit, W.ownsMap Try.prog 9 (plainElem Try.prog 4) mb n D ∧ qs.length ≤ Maps.size D ∧ Maps.size D ≤ n := by
  obtain ⟨D, h1, ⟨es, rfl⟩, h3, -⟩ := h
  refine ⟨_, h1, ?_, h1.size_le⟩
  rw [Maps.size_eq]
  refine pig (R := fun (p : Lit × DataW Unit) q => p.1.sameKey (slit q) = true) (fun p q q' a b => ?_) hn fun q hq' => ?_
  · have e1 := WideAt.sameKey_eq a
    have e2 := WideAt.sameKey_eq b
    exact slit_inj (e1.symm.trans e2)
  · have := h3 q
    rw [hq q hq', Maps.has_eq, List.any_eq_true] at this
    exact this
theorem map_inj_nodup {α β : Type} {f : α → β} : ∀ {xs : List α}, (∀ x ∈ xs, ∀ y ∈ xs, f x = f y → x = y) → xs.Nodup → (xs.map f).Nodup
  | [], _, _ => List.nodup_nil
  | x :: xs, hf, hn => by
    obtain ⟨h1, h2⟩ := List.nodup_cons.1 hn
    rw [List.map_cons, List.nodup_cons]
    refine ⟨fun hh => ?_, map_inj_nodup (fun a ha b hb => hf a (List.mem_cons_of_mem _ ha) b (List.mem_cons_of_mem _ hb)) h2⟩
    obtain ⟨y, hy, e⟩ := List.mem_map.1 hh
    have := hf y (List.mem_cons_of_mem _ hy) x (List.mem_cons_self ..) e
    exact h1 (this ▸ hy)
theorem begun_size {l : List Tk} (hP : okP l) {W : World} {mb : Nat} {B : List Nat} (h : MapS W mb B.length (nmsOf l B)) (hn : B.Nodup) (hl : ∀ i ∈ B, i < l.length) : ∃ D : DataW Unit, W.ownsMap Try.prog 9 (plainElem Try.prog 4) mb B.length D ∧ Maps.size D = B.length := by
  obtain ⟨D, h1, h2, h3⟩ := maps_size h (B.map fun i => (tkA l i).nm) (map_inj_nodup (fun x hx y hy e => apN_inj hP.apart (hl x hx) (hl y hy) e) hn) (fun q hq => by
    obtain ⟨i, hi, rfl⟩ := List.mem_map.1 hq
    unfold nmsOf
    rw [if_pos (List.any_eq_true.2 ⟨i, hi, by simp⟩)]; rfl)
  rw [List.length_map] at h2
  exact ⟨D, h1, by omega⟩
structure LsR (A : Option Addr) (cap : Nat) (l : List Tk) (w : World) (N Bl gl capl go mb Bb : Nat) (s : Sc) (W : World) : Prop where
  out : W.ownsRow w.heap.size 3 1 (.slice (some ⟨go, 0, none⟩) l.length l.length) l.length (icells s.1)
  map : MapS W mb s.2.length (nmsOf l s.2)
  cl : W.cell? ⟨w.heap.size, 0, none⟩ = some (.slice A l.length cap)
  cb : W.cell? ⟨Bb, 0, none⟩ = some (.map (some mb))
  lat : LateAt W Bl gl l.length capl (latP l)
  bel : Below w.heap.size w W
  ord : (w.heap.size < gl ∧ gl < Bl ∧ Bl < go) ∧ (go < mb ∧ mb < Bb ∧ Bb < N) ∧ N ≤ W.heap.size
section
variable {A : Option Addr} {cap : Nat} {l : List Tk} {w : World} {N Bl gl capl go mb Bb : Nat} {s : Sc} {W W' : World}
theorem LsR.later (h : LsR A cap l w N Bl gl capl go mb Bb s W) (hb : Below W.heap.size W W') : LsR A cap l w N Bl gl capl go mb Bb s W' :=
  have hc := fun b u (hu : W.cell? ⟨b, 0, none⟩ = some u) => (hb.cell (p := ⟨b, 0, none⟩) (World.block_lt_of_cell? W _ hu)).trans hu
  ⟨jown_later h.out hb, h.map.below hb, hc _ _ h.cl, hc _ _ h.cb, h.lat.later hb, h.bel.trans (hb.mono h.bel.size), h.ord.1, h.ord.2.1, Nat.le_trans h.ord.2.2 hb.size⟩
theorem LateAt.grown {nl : Nat} {late : List Int} {row : Option Nat} (h : LateAt W Bl gl nl capl late) (hg : W.grownBy W' row) (h1 : some Bl ≠ row) (h2 : some gl ≠ row) : LateAt W' Bl gl nl capl late :=
  ⟨(World.cell?_of_block (a := ⟨Bl, 0, none⟩) (hg.block Bl (World.block_lt_of_cell? W _ h.1) h1)).trans h.1, fun k hk => (World.cell?_of_block (a := ⟨gl, k, none⟩) (hg.block gl (World.block_lt_of_cell? W _ (h.2 k hk)) h2)).trans (h.2 k hk)⟩
theorem LsR.grown (h : LsR A cap l w N Bl gl capl go mb Bb s W) {row : Option Nat} (hg : W.grownBy W' row) (hr : ∀ r, row = some r → N ≤ r) : LsR A cap l w N Bl gl capl go mb Bb s W' := by
  obtain ⟨⟨o1, o2, o3⟩, ⟨o4, o5, o6⟩, o7⟩ := h.ord
  have hne : ∀ b, b < N → some b ≠ row := fun b hb e => by have := hr b e.symm; omega
  have hc := fun b (hb : b < N) u (hu : W.cell? ⟨b, 0, none⟩ = some u) => (World.cell?_of_block (a := ⟨b, 0, none⟩) (hg.block b (World.block_lt_of_cell? W _ hu) (hne b hb))).trans hu
  refine ⟨h.out.kept hg (.inr (fun e => hne go (by omega) e)), h.map.kept hg (hne mb (by omega)), hc _ (by omega) _ h.cl, hc _ (by omega) _ h.cb, h.lat.grown hg (hne Bl (by omega)) (hne gl (by omega)), h.bel.trans (grown_below hg h.bel.size fun k hk => by have := hr k hk; omega), ⟨o1, o2, o3⟩, ⟨o4, o5, o6⟩, Nat.le_trans o7 hg.size⟩
theorem LsR.store (h : LsR A cap l w N Bl gl capl go mb Bb s W) (i : Nat) (v : Int) : LsR A cap l w N Bl gl capl go mb Bb (s.1.set i v, s.2) (W.setCell ⟨go, i, none⟩ (.int .i64 v)) := by
  obtain ⟨⟨o1, o2, o3⟩, ⟨o4, o5, o6⟩, o7⟩ := h.ord
  obtain ⟨q1, hg⟩ := jown_store h.out i v
  have hne : ∀ b, b ≠ go → some b ≠ some go := fun b hb e => hb (by injection e)
  have hc := fun b (hb : b ≠ go) u (hu : W.cell? ⟨b, 0, none⟩ = some u) => (World.cell?_of_block (a := ⟨b, 0, none⟩) (hg.block b (World.block_lt_of_cell? W _ hu) (hne b hb))).trans hu
  exact ⟨q1, h.map.kept hg (hne mb (by omega)), hc _ (by omega) _ h.cl, hc _ (by omega) _ h.cb, h.lat.grown hg (hne Bl (by omega)) (hne gl (by omega)), h.bel.trans (grown_below hg h.bel.size fun k hk => by injection hk with hk; omega), ⟨o1, o2, o3⟩, ⟨o4, o5, o6⟩, Nat.le_trans o7 hg.size⟩
theorem LsR.put (h : LsR A cap l w N Bl gl capl go mb Bb s W) {B : List Nat} (hM : MapS W' mb B.length (nmsOf l B)) (hg : W.grownBy W' (some mb)) : LsR A cap l w N Bl gl capl go mb Bb (s.1, B) W' := by
  obtain ⟨⟨o1, o2, o3⟩, ⟨o4, o5, o6⟩, o7⟩ := h.ord
  have hne : ∀ b, b ≠ mb → some b ≠ some mb := fun b hb e => hb (by injection e)
  have hc := fun b (hb : b ≠ mb) u (hu : W.cell? ⟨b, 0, none⟩ = some u) => (World.cell?_of_block (a := ⟨b, 0, none⟩) (hg.block b (World.block_lt_of_cell? W _ hu) (hne b hb))).trans hu
  exact ⟨h.out.kept hg (.inr (fun e => hne go (by omega) e)), hM, hc _ (by omega) _ h.cl, hc _ (by omega) _ h.cb, h.lat.grown hg (hne Bl (by omega)) (hne gl (by omega)), h.bel.trans (grown_below hg h.bel.size fun k hk => by injection hk with hk; omega), ⟨o1, o2, o3⟩, ⟨o4, o5, o6⟩, Nat.le_trans o7 hg.size⟩
end
/-- The tasks ahead of k that have ended. -/
def endN (l : List Tk) (s : Sc) (d : Int) (k : Nat) : List Nat := (List.range k).filter fun i => s.2.contains i && decide (gI s.1 i + dyA l i ≤ d)
theorem endN_next (l : List Tk) (s : Sc) (d : Int) (k : Nat) : endN l s d (k + 1) = if (s.2.contains k && decide (gI s.1 k + dyA l k ≤ d)) = true then endN l s d k ++ [k] else endN l s d k := by
  unfold endN
  rw [List.range_succ, List.filter_append]
  cases h : s.2.contains k && decide (gI s.1 k + dyA l k ≤ d)
  · simp only [List.filter_cons, List.filter_nil, h, Bool.false_eq_true, if_false, List.append_nil]
  · simp only [List.filter_cons, List.filter_nil, h, if_true]
theorem endN_mem {l : List Tk} {s : Sc} {d : Int} {k i : Nat} : i ∈ endN l s d k ↔ i < k ∧ i ∈ s.2 ∧ gI s.1 i + dyA l i ≤ d := by
  unfold endN; rw [List.mem_filter, List.mem_range]; simp
theorem endN_len (l : List Tk) (s : Sc) (d : Int) (k : Nat) : (endN l s d k).length ≤ k := by
  unfold endN; exact Nat.le_trans (List.length_filter_le ..) (by rw [List.length_range]; exact Nat.le_refl _)
/-- The free tasks, in the plan's order. -/
def freeL (l : List Tk) (s : Sc) (d : Int) : List Nat := (List.range l.length).filter (rdD l s.1 s.2 d)
theorem free_is {l : List Tk} (hP : okP l) (s : Sc) (d : Int) : (rdN l (nmsOf l (endN l s d l.length)) l.length).filter (fun i => !s.2.contains i) = freeL l s d := by
  unfold rdN freeL
  rw [List.filter_filter]
  refine List.filter_congr fun i hi => ?_
  rw [List.mem_range] at hi
  rw [rdyM_rdy hP.names (fun j hj => (endN_mem.1 hj).1) hi]
  rw [Bool.eq_iff_iff, Bool.and_eq_true, rdy_iff, rdD_iff]
  constructor
  · rintro ⟨h1, h2, h3⟩
    refine ⟨by simpa using h1, fun a ha => ?_⟩
    have := endN_mem.1 (h3 a ha)
    exact ⟨this.2.1, this.2.2⟩
  · rintro ⟨h1, h2⟩
    refine ⟨by simpa using h1, fun hh => h1 (endN_mem.1 hh).2.1, fun a ha => ?_⟩
    obtain ⟨h3, h4⟩ := h2 a ha
    exact endN_mem.2 ⟨afs_lt hP hi ha, h3, h4⟩
/-- Men that are left behind the first k tasks. -/
def leftN (l : List Tk) (c : Int) (s : Sc) (d : Int) (k : Nat) : Int := c - sN (rnF l s.1 s.2 d) k
theorem leftN_next (l : List Tk) (c : Int) (s : Sc) (d : Int) (k : Nat) : leftN l c s d (k + 1) = leftN l c s d k - rnF l s.1 s.2 d k := by
  unfold leftN; show c - (sN _ k + rnF l s.1 s.2 d k) = _; omega
theorem leftN_bd {l : List Tk} (hP : okP l) (c : Int) (s : Sc) (d : Int) : ∀ k, k ≤ l.length → leftN l c s d k ≤ c ∧ c - 16 * k ≤ leftN l c s d k
  | 0, _ => by unfold leftN; show c - 0 ≤ c ∧ _ ≤ c - 0; omega
  | k + 1, hk => by
    have := leftN_bd hP c s d k (by omega)
    have h2 := mnA_bd hP (i := k) (by omega)
    rw [leftN_next]
    unfold rnF
    split <;> omega
/-- The free tasks while they are gathered. -/
def FrR (W0 : World) (Bf : Nat) (fr : List Nat) (W : World) : Prop :=
  ∃ v, Boxed W Bf 32 v ∧ W.ownsRow W0.heap.size 3 1 v fr.length (icells (iN fr)) ∧ W0.grownBy W (some Bf)
theorem own_cells {W : World} {base : Nat} {e : TypeId} {size : Nat} {v : Value} {n : Nat} {xs : List Value} (ho : W.ownsRow base e size v n xs) {r : Nat} {o : Obj} (hr : W.heap[r]? = some o) (hc : o.isCells = false) : v.ownBlock ≠ some r := by
  intro hh
  rcases ho.2 with ⟨h1, _⟩ | ⟨g, cap, cur, h1, _, h3, _⟩
  · rw [h1] at hh; simp [Value.ownBlock] at hh
  · rw [h1] at hh
    have : g = r := by simpa [Value.ownBlock] using hh
    subst this
    rw [hr] at h3
    injection h3 with h3
    subst h3
    cases hc
theorem FrR.own {W0 : World} {Bf : Nat} (hB : Bf < W0.heap.size) {f : List Nat → List Nat} : OwnFrom W0.heap.size (fun pre W => FrR W0 Bf (f pre) W) := by
  rintro s X Y row ⟨v, h1, h2, h3⟩ hg hr
  refine ⟨v, h1.kept hg (fun e => by obtain ⟨hb, _⟩ := hr Bf e.symm; omega), ?_, h3.andThen hg fun r e => .inl (hr r e).1⟩
  cases row with
  | none => exact jown_later h2 (grown_below hg (Nat.le_refl _) (fun k hk => by cases hk))
  | some r =>
    obtain ⟨-, o, ho, hc⟩ := hr r rfl
    exact h2.kept hg (.inr (own_cells h2 ho hc))
def frP (l : List Tk) (s : Sc) (pre : List Nat) : List Nat := (pre.map fun z => z % l.length).filter fun i => !s.2.contains i
theorem frP_next (l : List Tk) (s : Sc) (pre : List Nat) (z : Nat) : frP l s (pre ++ [z]) = if s.2.contains (z % l.length) = true then frP l s pre else frP l s pre ++ [z % l.length] := by
  unfold frP
  rw [List.map_append, List.filter_append]
  simp only [List.map_cons, List.map_nil, List.filter_cons, List.filter_nil]
  cases h : s.2.contains (z % l.length)
  · simp only [Bool.not_false, if_true, Bool.false_eq_true, if_false]
  · simp only [Bool.not_true, if_true, Bool.false_eq_true, if_false, List.append_nil]
theorem frP_rd {l : List Tk} (hP : okP l) (s : Sc) (d : Int) : frP l s (rdN l (nmsOf l (endN l s d l.length)) l.length) = freeL l s d := by
  rw [← free_is hP s d]
  unfold frP
  congr 1
  rw [List.map_congr_left (g := id), List.map_id]
  intro z hz
  unfold rdN at hz
  rw [List.mem_filter, List.mem_range] at hz
  exact Nat.mod_eq_of_lt hz.1
theorem freeL_len (l : List Tk) (s : Sc) (d : Int) : (freeL l s d).length ≤ l.length := by
  unfold freeL; exact Nat.le_trans (List.length_filter_le ..) (by rw [List.length_range]; exact Nat.le_refl _)
theorem freeL_lt {l : List Tk} {s : Sc} {d : Int} {i : Nat} (h : i ∈ freeL l s d) : i < l.length := by
  unfold freeL at h; rw [List.mem_filter, List.mem_range] at h; exact h.1
end Go.Proofs.Ytgijekhlbkfanaa

namespace Go.Proofs.Ytgijekhlbkfanaa
open Go.RowKit Go.Shelf Go.Maps
attribute [local go_sem] Oper.semAt_some Later.cell Same.cell

def lstX (l : List Tk) (c : Int) : List Int := if crewE l c = 0 then LST l c else []
theorem crew_ok {l : List Tk} {c : Int} (h : crewE l c = 0) : checkE l = 0 ∧ (1 ≤ c ∧ c ≤ 100) ∧ ∀ i, i < l.length → mnA l i ≤ c := by
  unfold crewE at h
  by_cases h0 : checkE l = 0
  · rw [if_pos h0] at h
    cases h1 : wi c 1 100
    · rw [h1] at h; cases h
    · rw [h1, if_pos rfl] at h
      cases h2 : many1 l c
      · refine ⟨h0, wi_iff.1 h1, fun i hi => ?_⟩
        apply Classical.byContradiction
        intro hh
        rw [many1_iff.2 ⟨i, hi, by omega⟩] at h2
        cases h2
      · rw [h2] at h; cases h
  · rw [if_neg h0] at h; exact absurd h h0
abbrev schN (l : List Tk) (c : Int) (d : Nat) : Sc := schK l c (trn l) d
set_option maxRecDepth 20000 in
def LsI (A : Option Addr) (cap : Nat) (l : List Tk) (c : Int) (w : World) (N Bl gl capl go mb Bb : Nat) (m : Nat) (a : Act) (W : World) : Prop :=
  ∃ (d : Nat) (Ds : List Nat) (u3 u11 u12 u13 u14 u15 u16 u17 u18 u19 u20 u21 u22 u23 u24 u25 u26 u27 u28 u29 u30 u31 u32 u33 u34 u35 u36 u37 u38 u39 u40 u41 u42 u43 u44 u45 u46 u47 u48 u49 u50 u51 u52 u53 u54 u55 u56 u57 u58 u59 u60 u61 u62 u63 u64 u65 u66 u67 u68 u69 u70 u71 u72 u73 u74 u75 u76 u77 u78 u79 u80 u81 u82 u83 u84 u85 u86 u87 u88 u89 u90 u91 u92 u93 u94 u95 u96 u97 u98 u99 u100 u101 u102 u103 u104 u105 u106 u107 u108 u109 u110 u111 u112 u113 u114 u115 u116 u117 u118 u119 u120 u121 : Value), d + m = (totD l).toNat + 1 ∧ Run l c d ∧
    a = { tmps := List.toArray (.slice A l.length cap :: .int .i64 c :: .pointer (some ⟨w.heap.size, 0, none⟩) :: u3 :: .slice none 0 0 :: .int .i64 0 :: .int .i64 0 :: .pointer (some ⟨Bl, 0, none⟩) :: .slice (some ⟨go, 0, none⟩) l.length l.length :: .pointer (some ⟨Bb, 0, none⟩) :: .int .i64 (d : Int) :: u11 :: u12 :: u13 :: u14 :: u15 :: u16 :: u17 :: u18 :: u19 :: u20 :: u21 :: u22 :: u23 :: u24 :: u25 :: u26 :: u27 :: u28 :: u29 :: u30 :: u31 :: u32 :: u33 :: u34 :: u35 :: u36 :: u37 :: u38 :: u39 :: u40 :: u41 :: u42 :: u43 :: u44 :: u45 :: u46 :: u47 :: u48 :: u49 :: u50 :: u51 :: u52 :: u53 :: u54 :: u55 :: u56 :: u57 :: u58 :: u59 :: u60 :: u61 :: u62 :: u63 :: u64 :: u65 :: u66 :: u67 :: u68 :: u69 :: u70 :: u71 :: u72 :: u73 :: u74 :: u75 :: u76 :: u77 :: u78 :: u79 :: u80 :: u81 :: u82 :: u83 :: u84 :: u85 :: u86 :: u87 :: u88 :: u89 :: u90 :: u91 :: u92 :: u93 :: u94 :: u95 :: u96 :: u97 :: u98 :: u99 :: u100 :: u101 :: u102 :: u103 :: u104 :: u105 :: u106 :: u107 :: u108 :: u109 :: u110 :: u111 :: u112 :: u113 :: u114 :: u115 :: u116 :: u117 :: u118 :: u119 :: u120 :: u121 :: []), defers := mkD Ds } ∧ LsR A cap l w N Bl gl capl go mb Bb (schN l c d) W ∧ MarksAt W w.heap.size Ds
set_option maxRecDepth 20000 in
theorem LsI.mk {A : Option Addr} {cap : Nat} {l : List Tk} {c : Int} {w : World} {N Bl gl capl go mb Bb : Nat} {m : Nat} {W : World} (d : Nat) (Ds : List Nat) {u3 u11 u12 u13 u14 u15 u16 u17 u18 u19 u20 u21 u22 u23 u24 u25 u26 u27 u28 u29 u30 u31 u32 u33 u34 u35 u36 u37 u38 u39 u40 u41 u42 u43 u44 u45 u46 u47 u48 u49 u50 u51 u52 u53 u54 u55 u56 u57 u58 u59 u60 u61 u62 u63 u64 u65 u66 u67 u68 u69 u70 u71 u72 u73 u74 u75 u76 u77 u78 u79 u80 u81 u82 u83 u84 u85 u86 u87 u88 u89 u90 u91 u92 u93 u94 u95 u96 u97 u98 u99 u100 u101 u102 u103 u104 u105 u106 u107 u108 u109 u110 u111 u112 u113 u114 u115 u116 u117 u118 u119 u120 u121 : Value} (h1 : d + m = (totD l).toNat + 1) (h2 : Run l c d) (h3 : LsR A cap l w N Bl gl capl go mb Bb (schN l c d) W) (h4 : MarksAt W w.heap.size Ds) :
    LsI A cap l c w N Bl gl capl go mb Bb m { tmps := List.toArray (.slice A l.length cap :: .int .i64 c :: .pointer (some ⟨w.heap.size, 0, none⟩) :: u3 :: .slice none 0 0 :: .int .i64 0 :: .int .i64 0 :: .pointer (some ⟨Bl, 0, none⟩) :: .slice (some ⟨go, 0, none⟩) l.length l.length :: .pointer (some ⟨Bb, 0, none⟩) :: .int .i64 (d : Int) :: u11 :: u12 :: u13 :: u14 :: u15 :: u16 :: u17 :: u18 :: u19 :: u20 :: u21 :: u22 :: u23 :: u24 :: u25 :: u26 :: u27 :: u28 :: u29 :: u30 :: u31 :: u32 :: u33 :: u34 :: u35 :: u36 :: u37 :: u38 :: u39 :: u40 :: u41 :: u42 :: u43 :: u44 :: u45 :: u46 :: u47 :: u48 :: u49 :: u50 :: u51 :: u52 :: u53 :: u54 :: u55 :: u56 :: u57 :: u58 :: u59 :: u60 :: u61 :: u62 :: u63 :: u64 :: u65 :: u66 :: u67 :: u68 :: u69 :: u70 :: u71 :: u72 :: u73 :: u74 :: u75 :: u76 :: u77 :: u78 :: u79 :: u80 :: u81 :: u82 :: u83 :: u84 :: u85 :: u86 :: u87 :: u88 :: u89 :: u90 :: u91 :: u92 :: u93 :: u94 :: u95 :: u96 :: u97 :: u98 :: u99 :: u100 :: u101 :: u102 :: u103 :: u104 :: u105 :: u106 :: u107 :: u108 :: u109 :: u110 :: u111 :: u112 :: u113 :: u114 :: u115 :: u116 :: u117 :: u118 :: u119 :: u120 :: u121 :: []), defers := mkD Ds } W :=
  ⟨d, Ds, u3, u11, u12, u13, u14, u15, u16, u17, u18, u19, u20, u21, u22, u23, u24, u25, u26, u27, u28, u29, u30, u31, u32, u33, u34, u35, u36, u37, u38, u39, u40, u41, u42, u43, u44, u45, u46, u47, u48, u49, u50, u51, u52, u53, u54, u55, u56, u57, u58, u59, u60, u61, u62, u63, u64, u65, u66, u67, u68, u69, u70, u71, u72, u73, u74, u75, u76, u77, u78, u79, u80, u81, u82, u83, u84, u85, u86, u87, u88, u89, u90, u91, u92, u93, u94, u95, u96, u97, u98, u99, u100, u101, u102, u103, u104, u105, u106, u107, u108, u109, u110, u111, u112, u113, u114, u115, u116, u117, u118, u119, u120, u121, h1, h2, rfl, h3, h4⟩
theorem stP_take {l : List Tk} {d : Int} {q : Int × Sc} {fs : List Nat} {k : Nat} (h : k < fs.length) : (fs.take (k + 1)).foldl (stP l d) q = stP l d ((fs.take k).foldl (stP l d) q) fs[k] := by
  rw [List.take_succ_eq_append_getElem h, List.foldl_append]; rfl
theorem stP_bd {l : List Tk} (hP : okP l) {d : Int} : ∀ {fs : List Nat} {q : Int × Sc}, (∀ x ∈ fs, x < l.length) → ((fs.foldl (stP l d) q).1 ≤ q.1 ∧ q.1 - 16 * fs.length ≤ (fs.foldl (stP l d) q).1) ∧ (fs.foldl (stP l d) q).2.2.length ≤ q.2.2.length + fs.length
  | [], q, _ => by simp
  | x :: fs, q, h => by
    have h1 := stP_bd hP (d := d) (fs := fs) (q := stP l d q x) fun y hy => h y (List.mem_cons_of_mem _ hy)
    have h2 := mnA_bd hP (h x (List.mem_cons_self ..))
    rw [List.foldl_cons, List.length_cons]
    have h3 : ((stP l d q x).1 ≤ q.1 ∧ q.1 - 16 ≤ (stP l d q x).1) ∧ (stP l d q x).2.2.length ≤ q.2.2.length + 1 := by
      unfold stP
      split
      · refine ⟨⟨?_, ?_⟩, ?_⟩
        · show q.1 - mnA l x ≤ q.1; omega
        · show q.1 - 16 ≤ q.1 - mnA l x; omega
        · show (q.2.2 ++ [x]).length ≤ _; simp
      · exact ⟨⟨by omega, by omega⟩, by omega⟩
    refine ⟨⟨by omega, by push_cast; omega⟩, by omega⟩
theorem stP_take_bd {l : List Tk} (hP : okP l) {d : Int} {q : Int × Sc} {fs : List Nat} (h : ∀ x ∈ fs, x < l.length) {k : Nat} (hk : k ≤ fs.length) : (((fs.take k).foldl (stP l d) q).1 ≤ q.1 ∧ q.1 - 16 * k ≤ ((fs.take k).foldl (stP l d) q).1) ∧ ((fs.take k).foldl (stP l d) q).2.2.length ≤ q.2.2.length + k := by
  have := stP_bd hP (d := d) (q := q) (fs := fs.take k) fun x hx => h x (List.mem_of_mem_take hx)
  rw [List.length_take, Nat.min_eq_left hk] at this
  exact this
theorem totD_bd {l : List Tk} (hP : okP l) : totD l ≤ 1000 * l.length := by
  have : ∀ n, n ≤ l.length → sN (dyA l) n ≤ 1000 * n := by
    intro n
    induction n with
    | zero => intro _; show (0 : Int) ≤ _; omega
    | succ n ih => intro hn; have := ih (by omega); have := (dy_bd hP (i := n) (by omega)).2; show sN _ n + dyA l n ≤ _; omega
  exact this _ (Nat.le_refl _)
set_option maxRecDepth 20000 in
set_option maxHeartbeats 32000000 in
theorem listed_ok (A : Option Addr) (len cap : Nat) (l : List Tk) (c : Int) (w : World) (hS : Sml l) (h9 : l.length ≤ 9) (hE : crewE l c = 0) (hx : Plan w w.heap.size A len l) :
    Calls Try.prog 45 #[.slice A len cap, .int .i64 c] w fun e w' => (∃ v, e = .returned (.tuple #[v, .int .i64 0]) ∧ w'.ownsRow w.heap.size 3 1 v (LST l c).length (icells (LST l c))) ∧ Below w.heap.size w w' := by
  obtain rfl : l.length = len := hx.1
  obtain ⟨hc0, hcb, hcm⟩ := crew_ok hE
  have hP := check_spec hc0
  have c1 := fun W (h : Below w.heap.size w W) => crewed_any A l.length cap l c W hS (hx.go h)
  rw [hE] at c1
  have c2 := fun W (h : Below w.heap.size w W) => latest_any A l.length cap l W hS hP (hx.go h)
  have hmm := @run_makeMap Try.prog
  have hmf : ∀ (fn : Fn) (first cap : Array Value) (w : World), (Instr.makeFunc fn first cap).run Try.prog w = .ok (.func fn first cap) w := fun _ _ _ _ => rfl
  obtain ⟨j0, hj, hy0, hy1, hy2⟩ := info_parts jinfo_int
  have hI0 := Lib.hid hj
  have hI1 := Lib.hid hy0
  have hI2 := Lib.hid hy1
  have hI3 := Lib.hid hy2
  have hL := hP.len
  have hLp := hP.pos
  have C1 := Lib.hid c1
  have C2 := Lib.hid c2
  have HX := Lib.hid hx
  have HS := Lib.hid hS
  have HP := Lib.hid hP
  have HCM := Lib.hid hcm
  clear c1 c2 hx hS hP hj hy0 hy1 hy2 hcm hE hc0
  refine (callsIn_wide (n := 9)).1 ?_
  refine callsIn_of_wp_marks Try.func45 rfl trivial ?_ rfl
  simp only [Try.ntmps45, List.size_toArray, List.length_cons, List.length_nil, Nat.reduceAdd, Nat.reduceSub, Array.replicate_succ, Array.replicate_zero, List.push_toArray, List.append_toArray, List.nil_append, List.cons_append]
  refine wpIn_wide.2 ?_
  have hbl0 := (Boxed.new w 31 (.slice A l.length cap)).cell
  go_wp2_with fail
  refine (C1.out _ (by repeat (first | exact Below.refl _ _ | assumption | refine Below.setCell ?_ (by first | (simp; done) | (simp; omega) | omega) _ | refine Below.drew ?_ | refine below_drewN ?_ _ | refine Below.alloc ?_ (by first | (simp; done) | (simp; omega) | omega) _ | refine below_alloc ?_ _ | refine below_step ?_ (by assumption)))).mono ?_
  rintro e w1 ⟨rfl, hb⟩
  have hbl1 : w1.cell? ⟨w.heap.size, 0, none⟩ = some (.slice A l.length cap) := (hb.cell (p := ⟨w.heap.size, 0, none⟩) (by simp)).trans hbl0
  have hB1 : Below w.heap.size w w1 := (by repeat (first | exact Below.refl _ _ | assumption | refine Below.setCell ?_ (by first | (simp; done) | (simp; omega) | omega) _ | refine Below.drew ?_ | refine below_drewN ?_ _ | refine Below.alloc ?_ (by first | (simp; done) | (simp; omega) | omega) _ | refine below_alloc ?_ _ | refine below_step ?_ (by assumption)))
  have hs1 : w.heap.size < w1.heap.size := by have := hb.size; simp at this; omega
  clear hb hbl0
  go_wp2_with fail
  refine (C2.out _ hB1).mono ?_
  rintro e w2 ⟨⟨v, rfl, ho⟩, hb⟩
  obtain ⟨A2, capl, rfl, -, -, hI, hg2⟩ := own_ints ho
  obtain ⟨gl, rfl, hgl⟩ : ∃ gl, A2 = some ⟨gl, 0, none⟩ ∧ w1.heap.size ≤ gl := by
    obtain ⟨g, e1, e2, -⟩ := hg2 hLp
    exact ⟨g, e1, e2⟩
  have hlc := (jown_at ho).2.2.1
  have hgs := (jown_at ho).1
  have hbl2 := (hb.cell (p := ⟨w.heap.size, 0, none⟩) hs1).trans hbl1
  have hB2 : Below w.heap.size w w2 := hB1.trans (hb.mono hB1.size)
  have hs2 := hb.size
  have HLC := Lib.hid hlc
  have HB2 := Lib.hid hB2
  have hblA : (w2.alloc (.cells #[.slice (some ⟨gl, 0, none⟩) l.length capl] 32)).cell? ⟨w.heap.size, 0, none⟩ = some (.slice A l.length cap) := cell_kept hbl2 (World.grownBy_alloc w2 _ none) (fun r e => by cases e)
  clear hb hbl1 hI hg2 ho hlc C1 C2 hB1 hB2
  go_wp2_with (at_make; refine wpList_make_full _ rfl _ _ 32 rfl w.heap.size 3 j0 (.int .i64 0) 1 Try.underlying32 hI0.out hI1.out hI2.out _ _ _ _ l.length rfl rfl (by omega) (by omega) (by rw [hI3.out]; omega) (by unfold maxLen; omega) (by simp; omega) ?_; intro w4 hown hgrow; have hbl4 : w4.cell? ⟨w.heap.size, 0, none⟩ = some (.slice A l.length cap) := cell_kept (cell_kept hbl2 (World.grownBy_alloc w2 _ none) (fun r e => by cases e)) hgrow (fun r e => by cases e); go_frame)
  rw [jmade1] at hown
  have hsa : (w2.alloc (.cells #[.slice (some ⟨gl, 0, none⟩) l.length capl] 32)).heap.size = w2.heap.size + 1 := by simp
  have hg4 : Below (w2.heap.size + 1) (w2.alloc (.cells #[.slice (some ⟨gl, 0, none⟩) l.length capl] 32)) w4 := grown_below hgrow (by rw [hsa]; exact Nat.le_refl _) (fun k hk => by cases hk)
  have hgo4 : w2.heap.size + 1 < w4.heap.size := by have := (jown_at hown).1; rw [hsa] at this; exact this
  have hlt4 : LateAt w4 w2.heap.size gl l.length capl (latP l) := by
    have hcb2 := (Boxed.new w2 32 (.slice (some ⟨gl, 0, none⟩) l.length capl)).cell
    refine ⟨(hg4.cell (p := ⟨w2.heap.size, 0, none⟩) (by show w2.heap.size < _; omega)).trans hcb2, fun k hk => ?_⟩
    exact (hg4.cell (p := ⟨gl, k, none⟩) (by show gl < _; omega)).trans ((Below.refl w2.heap.size w2).alloc (Nat.le_refl _) _ |>.cell (p := ⟨gl, k, none⟩) hgs |>.trans (HLC.out k hk))
  have hB4 : Below w.heap.size w w4 := (HB2.out.alloc (by have := HB2.out.size; omega) _).trans (hg4.mono (by have := HB2.out.size; omega))
  rw [hsa] at hown
  obtain ⟨W5, hW5⟩ : ∃ W5, W5 = (w4.alloc (.map #[] 0)).alloc (.cells #[.map (some w4.heap.size)] 70) := ⟨_, rfl⟩
  have hb45 : Below w4.heap.size w4 W5 := by rw [hW5]; exact ((Below.refl _ _).alloc (Nat.le_refl _) _).alloc (by simp) _
  have hs5 : W5.heap.size = w4.heap.size + 1 + 1 := by rw [hW5]; simp
  have hM5 : MapS W5 w4.heap.size ([] : List Nat).length (nmsOf l []) := by
    rw [hW5]; exact (mapv_made w4 Try.prog 9 4 slit blit false).alloc _
  have hcb5 : W5.cell? ⟨w4.heap.size + 1, 0, none⟩ = some (.map (some w4.heap.size)) := by
    rw [hW5]; have := (Boxed.new (w4.alloc (.map #[] 0)) 70 (.map (some w4.heap.size))).cell; rw [World.size_alloc] at this; exact this
  have hLS : LsR A cap l w (w4.heap.size + 1 + 1) w2.heap.size gl capl (w2.heap.size + 1) w4.heap.size (w4.heap.size + 1) (schN l c 0) W5 :=
    ⟨jown_later hown hb45, hM5, (hb45.cell (p := ⟨w.heap.size, 0, none⟩) (by show w.heap.size < _; omega)).trans hbl4, hcb5, hlt4.later hb45, hB4.trans (hb45.mono hB4.size), ⟨by omega, by omega, by omega⟩, ⟨by omega, by omega, by omega⟩, by omega⟩
  have HLS := Lib.hid hLS
  have hsz5 : w.heap.size < W5.heap.size := by omega
  have ho1 : w.heap.size < gl ∧ gl < w2.heap.size := by omega
  rw [← hW5]
  try rw [hsa]
  generalize hN0 : w4.heap.size + 1 + 1 = N at *
  clear hown hgrow hbl4 hbl2 hblA hg4 hlt4 hB4 hb45 hM5 hcb5 hLS hW5 HLC HB2 hsa hs5
  generalize hgoo : w2.heap.size + 1 = go at *
  generalize hBbb : w4.heap.size + 1 = Bb at *
  generalize hmbb : w4.heap.size = mb at *
  generalize hBll : w2.heap.size = Bl at *
  have hord : (w.heap.size < gl ∧ gl < Bl ∧ Bl < go) ∧ (go < mb ∧ mb < Bb ∧ Bb < N) := by omega
  clear hN0 hgoo hBbb hmbb hBll hgo4 hgs hgl hs1 hs2 ho1
  refine wp_loop_ghost (LsI A cap l c w N Bl gl capl go mb Bb) ((totD l).toNat + 1) (LsI.mk 0 [] (Nat.zero_add _) (Run.zeroth l c) HLS.out (MarksAt.nil _ _)) ?_
  clear HLS
  intro m a wr hrel
  obtain ⟨d, Ds, hrel⟩ := hrel
  obtain ⟨u3, u11, u12, u13, u14, u15, u16, u17, hrel⟩ := hrel
  obtain ⟨u18, u19, u20, u21, u22, u23, u24, u25, hrel⟩ := hrel
  obtain ⟨u26, u27, u28, u29, u30, u31, u32, u33, hrel⟩ := hrel
  obtain ⟨u34, u35, u36, u37, u38, u39, u40, u41, hrel⟩ := hrel
  obtain ⟨u42, u43, u44, u45, u46, u47, u48, u49, hrel⟩ := hrel
  obtain ⟨u50, u51, u52, u53, u54, u55, u56, u57, hrel⟩ := hrel
  obtain ⟨u58, u59, u60, u61, u62, u63, u64, u65, hrel⟩ := hrel
  obtain ⟨u66, u67, u68, u69, u70, u71, u72, u73, hrel⟩ := hrel
  obtain ⟨u74, u75, u76, u77, u78, u79, u80, u81, hrel⟩ := hrel
  obtain ⟨u82, u83, u84, u85, u86, u87, u88, u89, hrel⟩ := hrel
  obtain ⟨u90, u91, u92, u93, u94, u95, u96, u97, hrel⟩ := hrel
  obtain ⟨u98, u99, u100, u101, u102, u103, u104, u105, hrel⟩ := hrel
  obtain ⟨u106, u107, u108, u109, u110, u111, u112, u113, hrel⟩ := hrel
  obtain ⟨u114, u115, u116, u117, u118, u119, u120, u121, hrel⟩ := hrel
  obtain ⟨hdm, hR, rfl, hE, hD⟩ := hrel
  have hbs := hE.bel.size
  obtain ⟨D, hown, hsz⟩ := begun_size HP.out hE.map hR.inv.nd hR.inv.lt
  have q0 := hE.cl
  have q1 := hE.cb
  have hlel := hR.inv.len_le
  have hdb := hR.bd HP.out
  have HOWN := Lib.hid hown
  have HSZ := Lib.hid hsz
  have HE := Lib.hid hE
  have HD := Lib.hid hD
  have HR := Lib.hid hR
  clear hown hsz hE hD hR
  by_cases hfull : (schN l c d).2.length < l.length
  · have htb := totD_bd HP.out
    have hcon := fun k (hk : k < l.length) => nms_name HP.out.apart (out := (schN l c d).2) HR.out.inv.lt hk
    have hearly : ∀ i ∈ (schN l c d).2, 0 ≤ gI (schN l c d).1 i ∧ gI (schN l c d).1 i < d := HR.out.inv.early
    have hlf := fun k hk => leftN_bd HP.out c (schN l c d) (d : Int) k hk
    have hln := fun k => leftN_next l c (schN l c d) (d : Int) k
    have hen := fun k => endN_next l (schN l c d) (d : Int) k
    have hsl : (schN l c d).1.length = l.length := HR.out.inv.len
    have hl0 : leftN l c (schN l c d) (d : Int) 0 = c := by unfold leftN; show c - 0 = c; omega
    generalize hs : schN l c d = s at *
    have hf1 : (s.2.length : Int) < l.length := by omega
    have HCON := Lib.hid hcon
    have HEAR := Lib.hid hearly
    have HLF := Lib.hid hlf
    have HLN := Lib.hid hln
    have HEN := Lib.hid hen
    have HSL := Lib.hid hsl
    have HS0 := Lib.hid hs
    have hcl0 : wr.cell? ⟨w.heap.size, 0, none⟩ = some (.slice A l.length cap) := q0
    have hM0 : MapS (wr.alloc (.map #[] 0)) wr.heap.size 0 (nmsOf l (endN l s (d : Int) 0)) := mapv_made wr Try.prog 9 4 slit blit false
    have hE0 := HE.out.later ((Below.refl wr.heap.size wr).alloc (Nat.le_refl _) (.map #[] 0))
    have hD0 : MarksAt (wr.alloc (.map #[] 0)) w.heap.size Ds := HD.out.later ((Below.refl wr.heap.size wr).alloc (Nat.le_refl _) (.map #[] 0)) HD.out.lt
    have hq0 : (wr.alloc (.map #[] 0)).cell? ⟨w.heap.size, 0, none⟩ = some (.slice A l.length cap) := hE0.cl
    have HM0 := Lib.hid hM0
    have HE0 := Lib.hid hE0
    have HD0 := Lib.hid hD0
    have HL0 := Lib.hid hl0
    have hen0 : N ≤ wr.heap.size := HE.out.ord.2.2
    clear hcon hearly hlf hln hen hsl hs hM0 hE0 hD0 hl0 q0
    go_wp2_with (at_len; refine wpList_len_own wr rfl (.tmp 31) 70 rfl 9 4 Try.underlying70 _ mb _ D rfl HOWN.out ?_; rw [HSZ.out])
    obtain ⟨W0, hW0⟩ : ∃ W0, W0 = wr.alloc (.map #[] 0) := ⟨_, rfl⟩
    have hsW : W0.heap.size = wr.heap.size + 1 := by rw [hW0]; simp
    rw [← hW0] at HM0 HE0 HD0 hq0 ⊢
    generalize heb : wr.heap.size = eb at *
    clear hW0 HE HD HOWN HSZ hcl0 q1 heb
    go_loopw [42, 11] (fun i lf W => ∃ k : Nat, k ≤ l.length ∧ i = .int .i64 (k : Int) ∧ lf = .int .i64 (leftN l c s (d : Int) k) ∧ Hid (LsR A cap l w N Bl gl capl go mb Bb s W) ∧ Hid (MapS W eb k (nmsOf l (endN l s (d : Int) k))) ∧ Hid (MarksAt W w.heap.size Ds ∧ eb < W.heap.size)) (fun i _ _ => l.length - (intOf i).toNat)
    case atStart => exact ⟨0, Nat.zero_le _, rfl, by rw [HL0.out], HE0, HM0, Lib.hid ⟨HD0.out, by omega⟩⟩
    case round =>
      clear HE0 HM0 HD0 HL0
      clear hq0 hsW
      obtain ⟨k, hk, rfl, rfl, HE, HM, HD⟩ := hrel
      by_cases hlt : k < l.length
      · obtain ⟨b, off, rfl, hb0, hc1, hc2, hc3, A', q, cc, hc4, -, -, -⟩ := (HX.out.below HE.out.bel).at_ k hlt
        have hct := HCON.out k hlt
        have HSZ := Lib.hid (HS.out.nm k hlt)
        have hle := HLN.out k
        have hee := HEN.out k
        have hlfb := HLF.out k hk
        have hdb2 := dy_bd HP.out hlt
        have hmb2 := mnA_bd HP.out hlt
        have hlfb2 := HLF.out (k + 1) hlt
        unfold rnF at hle
        change 1 ≤ (tkA l k).dy ∧ (tkA l k).dy ≤ 1000 at hdb2
        change 1 ≤ (tkA l k).mn ∧ (tkA l k).mn ≤ 16 at hmb2
        unfold dyA mnA at hle
        unfold dyA at hee
        have hUP := nms_upd (l := l) (out := endN l s (d : Int) k) (i := k)
        have hgc := (jown_at HE.out.out).2.2.1 k hlt
        have hgl := (jown_at HE.out.out).1
        have q1 : wr.cell? ⟨Bb, 0, none⟩ = some (.map (some mb)) := HE.out.cb
        have hwN := HE.out.ord.2.2
        have hk1 : (k : Int) < l.length := by omega
        have hk2 : ¬ l.length ≤ k := by omega
        have hb1 : b < wr.heap.size := by have := HE.out.bel.size; omega
        have HUP := Lib.hid hUP
        clear hUP
        generalize (tkA l k).nm = X at *
        generalize (tkA l k).dy = Y at *
        generalize (tkA l k).mn = Z at *
        have hea := fun h => HEAR.out k h
        have hE1 := HE.out.later ((Below.refl wr.heap.size wr).alloc (Nat.le_refl _) (.cells #[.string X, .int .i64 Y, .int .i64 Z, .slice A' q cc] 43))
        have hM1 := HM.out.alloc (.cells #[.string X, .int .i64 Y, .int .i64 Z, .slice A' q cc] 43)
        have hD1 : MarksAt (wr.alloc (.cells #[.string X, .int .i64 Y, .int .i64 Z, .slice A' q cc] 43)) w.heap.size Ds := HD.out.1.later ((Below.refl wr.heap.size wr).alloc (Nat.le_refl _) _) HD.out.1.lt
        have hebl := HD.out.2
        have HE1 := Lib.hid hE1
        have HM1 := Lib.hid hM1
        have HD1 := Lib.hid hD1
        have HB1 := Lib.hid hE1.map
        have hqB : (wr.alloc (.cells #[.string X, .int .i64 Y, .int .i64 Z, .slice A' q cc] 43)).cell? ⟨Bb, 0, none⟩ = some (.map (some mb)) := HE1.out.cb
        have hgcA : (wr.alloc (.cells #[.string X, .int .i64 Y, .int .i64 Z, .slice A' q cc] 43)).cell? ⟨go, k, none⟩ = some (.int .i64 (gI s.1 k)) := cell_kept hgc (World.grownBy_alloc wr _ none) (fun r e => by cases e)
        have hBbn : ¬ Bb = wr.heap.size := by omega
        have hgon : ¬ go = wr.heap.size := by omega
        clear hE1 hM1 hD1 HE HM HD
        cases hcc : s.2.contains k
        · rw [hcc] at hct hle hee
          have HLE : Hid (leftN l c s (d : Int) (k + 1) = leftN l c s (d : Int) k) := Lib.hid (by rw [hle]; simp)
          have HEE : Hid (endN l s (d : Int) (k + 1) = endN l s (d : Int) k) := Lib.hid (by rw [hee]; simp)
          have HCT := Lib.hid hct
          clear hct hle hee hcc hea hlfb hlfb2 hgcA
          go_wp2_with (at_lookup; refine wpList_mapv_bool rfl (.tmp 52) (.tmp 54) 70 rfl lawS Try.underlying70 underBo (zeroBo _) rfl HB1.out X _ rfl (keyS HSZ.out) ?_; rw [HCT.out])
          go_roundw
          case rel => exact ⟨k + 1, by omega, by go_num, by rw [HLE.out], HE1.out, Lib.hid (by rw [HEE.out]; exact HM1.out.mono (Nat.le_succ k)), Lib.hid ⟨HD1.out, by simp; omega⟩⟩
          case measure => simp [intOf]; omega
        · have hea2 := hea (by simpa using hcc)
          rw [hcc] at hct hle hee
          have HCT := Lib.hid hct
          generalize gI s.1 k = G at *
          have hwr : wrap64 (G + Y) = G + Y := IntWalk.wrap64_in _ ⟨by omega, by omega⟩
          by_cases hd : G + Y ≤ (d : Int)
          · have HLE : Hid (leftN l c s (d : Int) (k + 1) = leftN l c s (d : Int) k) := Lib.hid (by rw [hle, if_neg (by simp; omega)]; omega)
            have HEE : Hid (endN l s (d : Int) (k + 1) = endN l s (d : Int) k ++ [k]) := Lib.hid (by rw [hee, if_pos (by simp; exact hd)])
            clear hct hle hee hcc hea hlfb hlfb2
            go_wp2_with (at_lookup; refine wpList_mapv_bool rfl (.tmp 52) (.tmp 54) 70 rfl lawS Try.underlying70 underBo (zeroBo _) rfl HB1.out X _ rfl (keyS HSZ.out) ?_; rw [HCT.out])
            (refine wp_region_later (by kernel_rfl) (by kernel_rfl) ?_; (repeat (go_big_quiet_step ((fail)))); refine wpQuiet_nil ?_)
            intro w3 hb3
            have t0 : w3.cell? ⟨wr.heap.size, 0, none⟩ = some (.string X) := (hb3.cell (p := ⟨wr.heap.size, 0, none⟩) (by simp)).trans (by simp)
            have hs3 : wr.heap.size < w3.heap.size := by have := hb3.size; simp at this; omega
            have HE3 := Lib.hid (HE1.out.later hb3)
            have HM3 := Lib.hid (HM1.out.below hb3)
            have HD3 := Lib.hid (HD1.out.later hb3 HD1.out.lt)
            generalize wr.heap.size = tb at *
            clear HE1 HM1 HD1 HB1 hb3 hqB hgcA hgc
            go_wp2_with (at_mapUpdate; refine wpList_mapv_put (κ := ByteArray) rfl (.tmp 67) (.tmp 69) (.const (.bool true)) 70 rfl lawS Try.underlying70 (fun _ _ => slit_inj) (fun _ => trivial) rfl HM3.out (by unfold maxLen; omega) X true _ _ rfl rfl (keyS HSZ.out) (plainElem_bool underBo true) ?_; intro w4 hM4 hg4; go_frame)
            have hs4 := hg4.size
            go_roundw
            case rel => exact ⟨k + 1, by omega, by go_num, by rw [HLE.out], Lib.hid (HE3.out.grown hg4 (fun r e => by injection e with e; omega)), Lib.hid (by rw [HEE.out, ← HUP.out]; exact hM4), Lib.hid ⟨HD3.out.grown hg4 (fun E hE e => map_not_def HM3.out hE (by injection e)), by omega⟩⟩
            case measure => simp [intOf]; omega
          · have HLE : Hid (leftN l c s (d : Int) k - Z = leftN l c s (d : Int) (k + 1)) := Lib.hid (by rw [hle, if_pos (by simp; omega)])
            have HEE : Hid (endN l s (d : Int) (k + 1) = endN l s (d : Int) k) := Lib.hid (by rw [hee, if_neg (by rw [Bool.true_and, decide_eq_true_eq]; exact hd)])
            generalize leftN l c s (d : Int) k = LK at *
            have hwz : wrap64 (LK - Z) = LK - Z := IntWalk.wrap64_in _ ⟨by omega, by omega⟩
            clear hct hle hee hcc hea hlfb hlfb2
            go_wp2_with (at_lookup; refine wpList_mapv_bool rfl (.tmp 52) (.tmp 54) 70 rfl lawS Try.underlying70 underBo (zeroBo _) rfl HB1.out X _ rfl (keyS HSZ.out) ?_; rw [HCT.out])
            (refine wp_region_later (by kernel_rfl) (by kernel_rfl) ?_; (repeat (go_big_quiet_step ((fail)))); refine wpQuiet_nil ?_)
            intro w3 hb3
            have t2 : w3.cell? ⟨wr.heap.size, 2, none⟩ = some (.int .i64 Z) := (hb3.cell (p := ⟨wr.heap.size, 2, none⟩) (by simp)).trans (by simp)
            have hs3 : wr.heap.size < w3.heap.size := by have := hb3.size; simp at this; omega
            have HE3 := Lib.hid (HE1.out.later hb3)
            have HM3 := Lib.hid (HM1.out.below hb3)
            have HD3 := Lib.hid (HD1.out.later hb3 HD1.out.lt)
            generalize wr.heap.size = tb at *
            clear HE1 HM1 HD1 HB1 hb3 hqB hgcA hgc
            go_wp2
            go_roundw
            case rel => exact ⟨k + 1, by omega, by go_num, by rw [hwz, HLE.out], HE3, Lib.hid (by rw [HEE.out]; exact HM3.out.mono (Nat.le_succ k)), Lib.hid ⟨HD3.out, by omega⟩⟩
            case measure => simp [intOf]; omega
      · have hkn : k = l.length := by omega
        subst hkn
        have hk1 : ¬ (l.length : Int) < l.length := by omega
        have hwN := HE.out.ord.2.2
        have hebl := HD.out.2
        have q0 : wr.cell? ⟨w.heap.size, 0, none⟩ = some (.slice A l.length cap) := HE.out.cl
        have q0A : (wr.alloc (.cells #[.slice none 0 0] 32)).cell? ⟨w.heap.size, 0, none⟩ = some (.slice A l.length cap) := (HE.out.later ((Below.refl wr.heap.size wr).alloc (Nat.le_refl _) (.cells #[.slice none 0 0] 32))).cl
        have HLN2 := Lib.hid (HLF.out l.length (Nat.le_refl _))
        obtain ⟨LN, hLN⟩ : ∃ LN, LN = leftN l c s (d : Int) l.length := ⟨_, rfl⟩
        rw [← hLN] at HLN2 ⊢
        have HLL := Lib.hid hLN
        obtain ⟨W1, hW1⟩ : ∃ W1, W1 = ((wr.alloc (.cells #[.slice none 0 0] 32)).alloc (.cells #[.slice A l.length cap] 31)).alloc (.cells #[.map (some eb)] 70) := ⟨_, rfl⟩
        have hs1 : W1.heap.size = wr.heap.size + 1 + 1 + 1 := by rw [hW1]; simp
        have hB1 : Below wr.heap.size wr W1 := by rw [hW1]; exact (((Below.refl _ _).alloc (Nat.le_refl _) _).alloc (by simp) _).alloc (by simp; omega) _
        have hbx : Boxed W1 wr.heap.size 32 (.slice none 0 0) := by rw [hW1]; exact ((Boxed.new wr _ _).alloc _).alloc _
        have hcl : W1.cell? ⟨wr.heap.size + 1, 0, none⟩ = some (.slice A l.length cap) := by
          have := ((Boxed.new (wr.alloc (.cells #[.slice none 0 0] 32)) 31 (.slice A l.length cap)).alloc (.cells #[.map (some eb)] 70)).cell
          rw [World.size_alloc] at this; rw [hW1]; exact this
        have hct : W1.cell? ⟨wr.heap.size + 1 + 1, 0, none⟩ = some (.map (some eb)) := by
          have := (Boxed.new ((wr.alloc (.cells #[.slice none 0 0] 32)).alloc (.cells #[.slice A l.length cap] 31)) 70 (.map (some eb))).cell
          rw [World.size_alloc, World.size_alloc] at this; rw [hW1]; exact this
        have hM1 : MapS W1 eb l.length (nmsOf l (endN l s (d : Int) l.length)) := HM.out.below hB1
        have hX1 : Plan W1 w.heap.size A l.length l := (HX.out.below HE.out.bel).below (hB1.mono HE.out.bel.size)
        have hst := ready_stops 8 (by omega) (wr.heap.size + 1) (wr.heap.size + 1 + 1) eb l.length w.heap.size W1.heap.size wr.heap.size A l.length cap l (nmsOf l (endN l s (d : Int) l.length)) HS.out W1 ⟨⟨by omega, by omega⟩, ⟨by omega, by omega⟩, ⟨by omega, by omega⟩, by have := HE.out.bel.size; omega, by have := HE.out.bel.size; omega, Nat.le_refl _⟩ hcl hct hM1 hX1
        have hE1 := HE.out.later hB1
        have hD1 : MarksAt W1 w.heap.size Ds := HD.out.1.later hB1 HD.out.1.lt
        have hF1 : FrR W1 wr.heap.size (frP l s []) W1 := ⟨_, hbx, World.ownsRow_nil _ _ _ _, ⟨rfl, rfl, rfl, Nat.le_refl _, fun _ _ _ => rfl⟩⟩
        have HST := Lib.hid hst
        have HE1 := Lib.hid hE1
        have HD1 := Lib.hid hD1
        have HF1 := Lib.hid hF1
        have HBX1 := Lib.hid hbx
        have HDL := Lib.hid (HD.out.1.lt)
        clear hst hbx hcl hct hM1 hX1 hE1 hD1 hF1 HE HM HD hB1 hLN
        go_wp2_with (go_at_call 88; refine (ready_any _ _ _ _ _).mono ?_; rintro e w' ⟨rfl, rfl⟩)
        refine (wpIn_wide (n := 9)).1 ?_
        rw [← hW1]
        clear hW1
        generalize hBf : wr.heap.size = Bf at *
        have hBfl : Bf < W1.heap.size := by omega
        refine wpIn_rangeFunc_ownG_of_H rfl (by omega) (gf := 112) (lb := #[.pointer (some ⟨Bf + 1, 0, none⟩), .pointer (some ⟨Bf + 1 + 1, 0, none⟩)]) rfl trivial (enters_of Try.func112 (by kernel_rfl) rfl)
          HST.out KeepE.t (KeepE.b (Nat.le_refl _)) (Below.refl _ _) (fun _ => rfl)
          (fun pre W => FrR W1 Bf (frP l s pre) W)
          (fun _ _ _ => False)
          (FrR.own hBfl)
          (fun _ _ _ _ _ hs _ _ => hs)
          HF1.out
          ?act ?assign ?body ?done ?stop (fun _ => KeepE.refl _ _ _)
        case assign =>
          intro yl z W K hK
          unfold encT
          gi_wp2
          exact hK
        case body =>
          intro yl pre z W hJ hlp
          obtain ⟨v, hbx, hown, hgW⟩ := hJ
          have hi : z % l.length < l.length := Nat.mod_lt _ hLp
          have hnx := frP_next l s pre z
          have hfl : (frP l s pre).length ≤ pre.length := by unfold frP; exact Nat.le_trans (List.length_filter_le ..) (by rw [List.length_map]; exact Nat.le_refl _)
          have hcon := HCON.out _ hi
          generalize hzi : z % l.length = i at *
          have hzz : (z : Int) % (l.length : Int) = (i : Int) := by rw [← hzi]; omega
          have hLW := HE1.out.grown hgW (fun r e => by injection e with e; omega)
          obtain ⟨b, off, rfl, hb0, hc1, hc2, hc3, A', q, cc, hc4, -, -, -⟩ := (HX.out.below hLW.bel).at_ i hi
          have q0 : W.cell? ⟨w.heap.size, 0, none⟩ = some (.slice (some ⟨b, off, none⟩) l.length cap) := hLW.cl
          have q1 : W.cell? ⟨Bb, 0, none⟩ = some (.map (some mb)) := hLW.cb
          have hlk : ∀ x : Same W.drew, (Instr.lookup 70 (.map (some mb)) (.string (tkA l i).nm) false).run Try.prog x.val = .ok (.bool (s.2.contains i)) x.val := fun x => by
            rw [x.h, ← hcon]
            exact MapV.run_bool (t := 70) (hLW.later (Below.refl _ _).drew).map lawS Try.underlying70 underBo (zeroBo _) (tkA l i).nm (keyS (HS.out.nm i hi))
          have hbW : Bf < W.heap.size := hbx.lt
          have hszW := hgW.size
          have i1 : (i : Int) < l.length := by omega
          have i2 : ¬ l.length ≤ i := by omega
          have hb1 : b < W.heap.size := by have := hLW.bel.size; omega
          have hcx := hbx.cell
          have hfx := hbx.frozen
          have HOW := Lib.hid hown
          have HBX := Lib.hid hbx
          have HGW := Lib.hid hgW
          have HBD : Hid (Boxed W.drew Bf 32 v) := HBX
          have HOD : Hid (W.drew.ownsRow W1.heap.size 3 1 v (frP l s pre).length (icells (iN (frP l s pre)))) := HOW
          have HNB : Hid (some Bf ≠ v.ownBlock) := Lib.hid (fun e => by have := (HOW.out.lt Bf e.symm).1; omega)
          generalize (tkA l i).nm = X at *
          clear hLW hc2 hc3 hc4 hown hbx hgW hcon HLN2 HLL
          cases hcc : s.2.contains i
          · rw [hcc] at hnx hlk
            rw [if_neg (by decide)] at hnx
            have HAP : Hid (icells (iN (frP l s pre)) ++ [.int .i64 (i : Int)] = icells (iN (frP l s (pre ++ [z])))) := Lib.hid (by rw [hnx, iN_app, icells_app]; rfl)
            have HNX := Lib.hid hnx
            clear hnx hcc
            gi_wp2
            (refine wpIn_round_same (by kernel_rfl) (by kernel_rfl) (by kernel_rfl) ?_; (repeat (go_big_quiet_step ((fail)))); refine wpQuiet_nil ?_)
            gi_wp2_with (gi_at_builtin; go_loud (refine wpListIn_append_own _ rfl (.tmp 83) (.tmp 85) 32 rfl W1.heap.size 3 j0 (.int .i64 0) 1 8 Try.underlying32 hI0.out hI1.out hI2.out hI3.out rfl (by decide) _ _ _ rfl (HOD.out.alloc _) ⟨W.heap.size, 0, none⟩ 1 1 [.int .i64 (i : Int)] rfl rfl (jnews1 _ _ _) (jone1 _) (by unfold maxLen; omega) (by omega) (by simp; omega) ?_); intro v8 w8 hown8 hgrow8 _; rw [HAP.out] at hown8; obtain ⟨A8, cap8, rfl, -, -, -, -⟩ := own_ints hown8; have hbx8 := (HBD.out.alloc _).kept hgrow8 HNB.out; have hcx8 := hbx8.cell; have hfx8 := hbx8.frozen)
            have hgA : W.grownBy w8 v.ownBlock := ((⟨rfl, rfl, rfl, Nat.le_refl _, fun _ _ _ => rfl⟩ : W.grownBy W.drew v.ownBlock).trans (World.grownBy_alloc _ _ _)).trans hgrow8
            have hks : KeepsOthers W w8 := KeepsOthers.of_grownBy hgA (fun j o hj ho => by
              cases hc : o.isCells with
              | true => rfl
              | false => exact absurd hj (own_cells HOW.out ho hc))
            have hR : w8.ownsRow W1.heap.size 3 1 (.slice A8 ((frP l s pre).length + 1) cap8) (frP l s (pre ++ [z])).length (icells (iN (frP l s (pre ++ [z])))) := by
              have : (frP l s (pre ++ [z])).length = (frP l s pre).length + 1 := by rw [HNX.out, List.length_append]; rfl
              rw [this]; exact hown8
            refine ⟨(hks.trans (KeepsOthers.setCell _ _ _)).from _, ⟨by rw [World.size_setCell]; exact hgA.size, fun k hk hne => ((grown_set w8 Bf 0 _).block k (by have := hgA.size; omega) (fun e => hne (by injection e))).trans (hgA.block k (by omega) (fun e => by have := (HOW.out.lt k e.symm).1; omega))⟩, _, hbx8.set _, hR.kept (grown_set w8 Bf 0 _) (.inr (fun e => by have := (hR.lt Bf e).1; omega)), (HGW.out.andThen hgA (fun r e => .inl (HOW.out.lt r e).1)).trans (grown_set w8 Bf 0 _)⟩
          · rw [hcc] at hnx hlk
            rw [if_pos rfl] at hnx
            have HNX := Lib.hid hnx
            clear hnx hcc
            gi_wp2
            (refine wpIn_round_same (by kernel_rfl) (by kernel_rfl) (by kernel_rfl) ?_; (repeat (go_big_quiet_step ((fail)))); refine wpQuiet_nil ?_)
            gi_wp2
            refine ⟨(KeepsOthers.drew W).from _, KeepE.of_below (Below.refl _ _).drew (by omega), v, HBX.out, ?_, HGW.out.trans ⟨rfl, rfl, rfl, Nat.le_refl _, fun _ _ _ => rfl⟩⟩
            rw [HNX.out]
            exact HOW.out
        case done =>
          rintro Dd ys W hDd rfl hJ hK
          rw [frP_rd HP.out s (d : Int)] at hJ
          obtain ⟨v, hbx, hown, hgW⟩ := hJ
          obtain ⟨A1, cap1, rfl, hq1, hq2, -, -⟩ := own_ints hown
          have hLW := HE1.out.grown hgW (fun r e => by injection e with e; omega)
          have hfl := freeL_len l s (d : Int)
          have hsz := hgW.size
          have hD1 : MarksAt W w.heap.size Ds := HD1.out.grown hgW (fun E hE e => by
            injection e with e
            subst e
            have h1 := HBX1.out
            unfold Boxed at h1
            rw [hE] at h1; cases h1)
          have hDW : MarksAt W w.heap.size (Dd :: Ds) := hD1.cons (fun h => by have := HDL.out Dd h; omega) (by have := hLW.bel.size; omega) hK
          have hcx := hbx.cell
          have hfs : isortV (latP l) (freeL l s (d : Int)) = (trn l).filter (rdD l s.1 s.2 (d : Int)) := free_sorted HP.out _
          have hnb : ∀ b, b < N → some b ≠ (Value.slice A1 (freeL l s (d : Int)).length cap1).ownBlock := fun b hb e => by have := (hown.lt b e.symm).1; omega
          have hnb2 : some Bf ≠ (Value.slice A1 (freeL l s (d : Int)).length cap1).ownBlock := fun e => by have := (hown.lt Bf e.symm).1; omega
          have hvb : ∀ r, (Value.slice A1 (freeL l s (d : Int)).length cap1).ownBlock = some r → W1.heap.size ≤ r := fun r e => (hown.lt r e).1
          have cs := stable_any W1.heap.size (freeL l s (d : Int)).length cap1 Bl gl l.length capl A1 (latP l) (freeL l s (d : Int)) W (by omega) (by omega) hown hLW.lat (hnb Bl (by omega)) (hnb gl (by omega)) (fun x hx => freeL_lt hx)
          have hfll : (isortV (latP l) (freeL l s (d : Int))).length = (freeL l s (d : Int)).length := isortV_len _ _
          have hflt : ∀ x ∈ isortV (latP l) (freeL l s (d : Int)), x < l.length := fun x hx => by
            rw [hfs, List.mem_filter] at hx; exact ((trn_is HP.out).mem x).1 hx.1
          have hday : ((isortV (latP l) (freeL l s (d : Int))).foldl (stP l (d : Int)) (LN, s)).2 = schN l c (d + 1) := by
            have h1 := dayP_eq (most := c) HP.out HR.out.inv HR.out.inv2 (by omega)
            rw [← HS0.out] at HLL ⊢
            rw [HLL.out]
            exact h1
          generalize hFS : isortV (latP l) (freeL l s (d : Int)) = fs at *
          generalize (freeL l s (d : Int)).length = nf at *
          have HMK : (({ target := .collected Dd, args := #[] } : Deferred) :: mkD Ds) = mkD (Dd :: Ds) := rfl
          have HLW := Lib.hid hLW
          have HDW := Lib.hid hDW
          have CS := Lib.hid cs
          have HFLL := Lib.hid hfll
          have HFLT := Lib.hid hflt
          have HDAY := Lib.hid hday
          have HNB2 := Lib.hid hnb2
          have HVB := Lib.hid hvb
          have HBXW := Lib.hid hbx
          have HNDF := Lib.hid (fun E (hE : W.heap[E]? = some (Obj.deferred (some []))) => own_not_def hown hE)
          clear hLW hDW hD1 hnb cs hfs hfll hflt hday hnb2 hvb hown hgW hbx HST HE1 HD1 HF1 hFS hK
          dsimp only
          rw [HMK]
          clear HMK
          go_wp2_with fail
          refine CS.out.mono ?_
          rintro e w3 ⟨rfl, ho3, hg3⟩
          have hL3 := HLW.out.grown hg3 (fun r e => by have := HVB.out r e; omega)
          have hD3 : MarksAt w3 w.heap.size (Dd :: Ds) := HDW.out.grown hg3 (fun E hE e => HNDF.out E hE e)
          have hcx3 := (HBXW.out.kept hg3 HNB2.out).cell
          have HO3 := Lib.hid ho3
          have HL3 := Lib.hid hL3
          have HD3 := Lib.hid hD3
          clear hcx ho3 hg3 hL3 hD3 CS HLW HDW HBXW
          go_wp2_with fail
          have hQ0 : (fs.take 0).foldl (stP l (d : Int)) (LN, s) = (LN, s) := rfl
          have hQn := fun k (hk : k < fs.length) => stP_take (l := l) (d := (d : Int)) (q := (LN, s)) hk
          have hQb := fun k (hk : k ≤ fs.length) => stP_take_bd HP.out (d := (d : Int)) (q := (LN, s)) HFLT.out hk
          have hQe : (fs.take nf).foldl (stP l (d : Int)) (LN, s) = fs.foldl (stP l (d : Int)) (LN, s) := by rw [← HFLL.out, List.take_length]
          have hLN1 := HLN2.out
          obtain ⟨Q, hQ⟩ : ∃ Q : Nat → Int × Sc, Q = fun k => (fs.take k).foldl (stP l (d : Int)) (LN, s) := ⟨_, rfl⟩
          have HQ0 : Hid (Q 0 = (LN, s)) := Lib.hid (by rw [hQ]; rfl)
          have HQN : Hid (∀ k (hk : k < fs.length), Q (k + 1) = stP l (d : Int) (Q k) fs[k]) := Lib.hid (by rw [hQ]; exact hQn)
          have HQB : Hid (∀ k, k ≤ fs.length → ((Q k).1 ≤ LN ∧ LN - 16 * k ≤ (Q k).1) ∧ (Q k).2.2.length ≤ s.2.length + k) := Lib.hid (by rw [hQ]; exact hQb)
          have HQE : Hid ((Q nf).2 = schN l c (d + 1)) := Lib.hid (by rw [hQ]; dsimp only; rw [hQe]; exact HDAY.out)
          clear hQ hQ0 hQn hQb hQe HDAY
          go_loopw [92, 11] (fun i lf W => ∃ k : Nat, k ≤ nf ∧ i = .int .i64 (k : Int) ∧ lf = .int .i64 (Q k).1 ∧ Hid (LsR A cap l w N Bl gl capl go mb Bb (Q k).2 W) ∧ Hid (W.ownsRow W1.heap.size 3 1 (.slice A1 nf cap1) nf (icells (iN fs))) ∧ Hid (MarksAt W w.heap.size (Dd :: Ds))) (fun i _ _ => nf - (intOf i).toNat)
          case atStart => exact ⟨0, Nat.zero_le _, rfl, by rw [HQ0.out], Lib.hid (by rw [HQ0.out]; exact HL3.out), HO3, HD3⟩
          case round =>
            clear HL3 HO3 HD3 hcx3 HQ0
            obtain ⟨k, hk, rfl, rfl, HE, HO, HD⟩ := hrel
            by_cases hlt : k < nf
            · have hko : k < fs.length := by rw [HFLL.out]; exact hlt
              obtain ⟨A5, cap5, he, -, -, hI5, -⟩ := own_ints HO.out
              injection he with he1 he2 he3
              subst he1 he3
              obtain ⟨b5, off5, rfl, hb5, hc5⟩ := hI5.at_ k hlt
              change wr.cell? _ = some (.int .i64 (gI (iN fs) k)) at hc5
              rw [iN_at hko] at hc5
              have hn := HQN.out k hko
              have hb := HQB.out k (by omega)
              have hil := HFLT.out fs[k] (List.getElem_mem hko)
              generalize fs[k] = i at *
              obtain ⟨b, off, rfl, hb0, hc1, hc2, hc3, A', q, cc, hc4, -, -, -⟩ := (HX.out.below HE.out.bel).at_ i hil
              have hmb2 := mnA_bd HP.out hil
              have hUP := nms_upd (l := l) (out := (Q k).2.2) (i := i)
              unfold stP mnA at hn
              unfold mnA at hmb2
              have HSZ := Lib.hid (HS.out.nm i hil)
              have hgc := (jown_at HE.out.out).2.2.1 i hil
              have hgf := (jown_at HE.out.out).2.2.2 i
              have hwN := HE.out.ord.2.2
              have q0 : wr.cell? ⟨w.heap.size, 0, none⟩ = some (.slice (some ⟨b, off, none⟩) l.length cap) := HE.out.cl
              have q1 : wr.cell? ⟨Bb, 0, none⟩ = some (.map (some mb)) := HE.out.cb
              have k1 : (k : Int) < nf := by omega
              have k2 : ¬ nf ≤ k := by omega
              have i1 : (i : Int) < l.length := by omega
              have i2 : ¬ l.length ≤ i := by omega
              have hbs := HE.out.bel.size
              have hb1 : b < wr.heap.size := by omega
              have HUP := Lib.hid hUP
              generalize (tkA l i).nm = X at *
              generalize (tkA l i).mn = Z at *
              have hbl := hb.2
              have hb2 := hb.1
              generalize hLF : (Q k).1 = LF at *
              have HLF2 := Lib.hid hLF
              clear hLF
              by_cases hz : Z ≤ LF
              · rw [if_pos hz] at hn
                have HN := Lib.hid hn
                have hwz : wrap64 (LF - Z) = LF - Z := IntWalk.wrap64_in _ ⟨by omega, by omega⟩
                have HST := Lib.hid (HE.out.store i (d : Int))
                have HGO := Lib.hid (fun E (hE : wr.heap[E]? = some (Obj.deferred (some []))) => own_not_def HE.out.out hE)
                clear hn hI5 hUP hb hc2 hc4 HE
                go_wp2_with fail
                obtain ⟨W4, hW4⟩ : ∃ W4, W4 = wr.setCell ⟨go, i, none⟩ (.int .i64 (d : Int)) := ⟨_, rfl⟩
                rw [← hW4] at HST ⊢
                have hg4 : wr.grownBy W4 (some go) := by rw [hW4]; exact grown_set wr go i _
                have p0 : W4.cell? ⟨w.heap.size, 0, none⟩ = some (.slice (some ⟨b, off, none⟩) l.length cap) := HST.out.cl
                have p1 : W4.cell? ⟨Bb, 0, none⟩ = some (.map (some mb)) := HST.out.cb
                have p2 := (World.cell?_of_block (a := ⟨b, off + i * 4, none⟩) (hg4.block b hb1 (fun e => by injection e with e; omega))).trans hc1
                have HO4 := Lib.hid (HO.out.kept hg4 (.inr (fun e => by have := (HO.out.lt go e).1; omega)))
                have HD4 := Lib.hid (HD.out.grown hg4 (fun E hE e => HGO.out E hE e))
                have hb4 : b < W4.heap.size := by have := hg4.size; omega
                have HMD : Hid (MapS W4.drew mb (Q k).2.2.length (nmsOf l (Q k).2.2)) := Lib.hid (HST.out.map.below (Below.refl _ _).drew)
                have HNDM := Lib.hid (fun E (hE : W4.drew.heap[E]? = some (Obj.deferred (some []))) => map_not_def HMD.out hE)
                have hmN : mb < N := by omega
                have hNW : N ≤ W1.heap.size := by omega
                clear hW4 hg4 hc1 hgc hgf q0 q1 hc5 hb5 HO HD HGO
                (refine wp_region_tail 6 (by kernel_rfl) (by kernel_rfl) ?_; simp only [List.take_succ_cons, List.take_zero, List.drop_succ_cons, List.drop_zero]; (repeat (go_big_quiet_step ((fail)))); refine wpQuiet_nil ?_)
                go_wp2_with (at_mapUpdate; refine wpList_mapv_put (κ := ByteArray) rfl (.tmp 114) (.tmp 119) (.const (.bool true)) 70 rfl lawS Try.underlying70 (fun _ _ => slit_inj) (fun _ => trivial) rfl HMD.out (by unfold maxLen; omega) X true _ _ rfl rfl (keyS HSZ.out) (plainElem_bool underBo true) ?_; intro w6 hM6 hg6; go_frame)
                have hL6 : LsR (some ⟨b, off, none⟩) cap l w N Bl gl capl go mb Bb ((Q k).2.1.set i (d : Int), (Q k).2.2 ++ [i]) w6 := (HST.out.later (Below.refl _ _).drew).put (by
                  rw [List.length_append, ← HUP.out]; exact hM6) hg6
                have HO6 : Hid (w6.ownsRow W1.heap.size 3 1 (.slice (some ⟨b5, off5, none⟩) nf cap1) nf (icells (iN fs))) := Lib.hid ((jown_later HO4.out (Below.refl _ _).drew).kept hg6 (.inr (fun e => by have := (HO4.out.lt mb e).1; omega)))
                have HD6 : Hid (MarksAt w6 w.heap.size (Dd :: Ds)) := Lib.hid ((HD4.out.later (Below.refl _ _).drew HD4.out.lt).grown hg6 (fun E hE e => HNDM.out E hE (by injection e)))
                have HL6 := Lib.hid hL6
                clear hL6 hM6 hg6
                go_roundw
                case rel => exact ⟨k + 1, by omega, by go_num, by rw [HN.out], Lib.hid (by rw [HN.out]; exact HL6.out), HO6, HD6⟩
                case measure => simp [intOf]; omega
              · rw [if_neg hz] at hn
                have HN := Lib.hid hn
                clear hn hI5 hUP hb hc2 hc4
                go_wp2
                go_roundw
                case rel => exact ⟨k + 1, by omega, by go_num, by rw [HN.out, HLF2.out], Lib.hid (by rw [HN.out]; exact HE.out), HO, HD⟩
                case measure => simp [intOf]; omega
            · have hkn : k = nf := by omega
              subst hkn
              have k1 : ¬ (k : Int) < k := by omega
              have HF : Hid (LsR A cap l w N Bl gl capl go mb Bb (schN l c (d + 1)) wr) := Lib.hid (by rw [← HQE.out]; exact HE.out)
              have hwd : wrap64 ((d : Int) + 1) = (d : Int) + 1 := IntWalk.wrap64_in _ ⟨by omega, by omega⟩
              have hRn := HR.out.next HP.out HCM.out (by rw [show schK l c (trn l) d = s from HS0.out]; exact hfull)
              have HRN := Lib.hid hRn
              clear hRn HE
              clear HQN HQB HQE HNDF HNB2 HVB HFLT HFLL HLN2 hLN1 HLL HS0 HSL HEN HLN HLF HEAR HCON HDL HBX1 HO HCM HS HX hI0 hI1 hI2 hI3 hmm hmf
              clear hwd
              go_wp2_with fail
              have hcast : ((d : Int) + 1) = ((d + 1 : Nat) : Int) := by omega
              rw [hcast]
              exact ⟨m - 1, by omega, LsI.mk (d + 1) (Dd :: Ds) (by omega) HRN.out HF.out HD.out⟩
        case stop =>
          rintro D c pre W _ _ h _
          exact h.elim
  · have hf1 : ¬ ((schN l c d).2.length : Int) < l.length := by omega
    have HF : Hid (wr.ownsRow w.heap.size 3 1 (.slice (some ⟨go, 0, none⟩) l.length l.length) (LST l c).length (icells (LST l c))) := Lib.hid (by
      have h1 := sch_done HP.out HR.out hfull
      have h2 := jown_lt HE.out.out
      have h3 := HE.out.out
      rw [h1] at h2 h3
      rw [h2]; exact h3)
    go_wp2_with (at_len; refine wpList_len_own wr rfl (.tmp 31) 70 rfl 9 4 Try.underlying70 _ mb _ D rfl HOWN.out ?_; rw [HSZ.out])
    refine leaves_marks HD.out fun W' hW' => ?_
    exact ⟨.tuple #[.slice (some ⟨go, 0, none⟩) l.length l.length, .int .i64 0], by simp [results, Try.results45, go_sem], ⟨_, rfl, hW'.owns HD.out HF.out⟩, HE.out.bel.trans (hW'.below HD.out)⟩

set_option maxHeartbeats 4000000 in
theorem listed_any (A : Option Addr) (len cap : Nat) (l : List Tk) (c : Int) (w : World) (hS : Sml l) (h9 : checkE l = 0 → l.length ≤ 9) (hx : Plan w w.heap.size A len l) :
    Calls Try.prog 45 #[.slice A len cap, .int .i64 c] w fun e w' => (∃ v, e = .returned (.tuple #[v, .int .i64 (crewE l c)]) ∧ w'.ownsRow w.heap.size 3 1 v (lstX l c).length (icells (lstX l c))) ∧ Below w.heap.size w w' := by
  by_cases hE : crewE l c = 0
  · rw [show lstX l c = LST l c from if_pos hE, hE]
    exact listed_ok A len cap l c w hS (h9 (crew_ok hE).1) hE hx
  · rw [show lstX l c = [] from if_neg hE]
    have c1 := fun W (h : Below w.heap.size w W) => crewed_any A len cap l c W hS (hx.go h)
    have hne : (crewE l c == 0) = false := by simpa using hE
    generalize crewE l c = E at *
    have C1 := Lib.hid c1
    clear c1 hE hx hS h9
    go_enter Try.func45, Try.ntmps45
    go_wp2_with fail
    refine (C1.out _ (by repeat (first | exact Below.refl _ _ | assumption | refine Below.setCell ?_ (by first | (simp; done) | (simp; omega) | omega) _ | refine Below.drew ?_ | refine below_drewN ?_ _ | refine Below.alloc ?_ (by first | (simp; done) | (simp; omega) | omega) _ | refine below_alloc ?_ _ | refine below_step ?_ (by assumption)))).mono ?_
    rintro e w1 ⟨rfl, hb⟩
    have HB : Hid (Below w.heap.size w w1) := Lib.hid (by repeat (first | exact Below.refl _ _ | assumption | refine Below.setCell ?_ (by first | (simp; done) | (simp; omega) | omega) _ | refine Below.drew ?_ | refine below_drewN ?_ _ | refine Below.alloc ?_ (by first | (simp; done) | (simp; omega) | omega) _ | refine below_alloc ?_ _ | refine below_step ?_ (by assumption)))
    clear hb
    go_wp2_with fail
    go_ret2
    exact ⟨⟨.slice none 0 0, rfl, World.ownsRow_nil _ _ _ _⟩, HB.out⟩
end Go.Proofs.Ytgijekhlbkfanaa

namespace Go.Proofs.Ytgijekhlbkfanaa
open Go.RowKit Go.Shelf
attribute [local go_sem] Later.cell Same.cell

def dysB (days : List Int) : Bool := days.all fun d => wi d 0 100000
theorem dysB_bd {days : List Int} (h : dysB days = true) : bdE 1000000 days := fun i => by
  unfold gI
  by_cases hi : i < days.length
  · rw [List.getElem?_eq_getElem hi]
    have := wi_iff.1 (List.all_eq_true.1 h _ (List.getElem_mem hi))
    show 0 ≤ days[i] ∧ days[i] ≤ _
    omega
  · rw [List.getElem?_eq_none (by omega)]
    show (0 : Int) ≤ 0 ∧ (0 : Int) ≤ 1000000
    omega
theorem dysB_no {days : List Int} {k : Nat} (hk : k < days.length) (h : wi (gI days k) 0 100000 = false) : dysB days = false := by
  cases hd : dysB days with
  | false => rfl
  | true =>
    have := List.all_eq_true.1 hd _ (List.getElem_mem hk)
    rw [show gI days k = days[k] from by unfold gI; rw [List.getElem?_eq_getElem hk]; rfl] at h
    rw [this] at h; cases h
theorem dysB_yes {days : List Int} (h : ∀ k, k < days.length → wi (gI days k) 0 100000 = true) : dysB days = true := by
  unfold dysB
  rw [List.all_eq_true]
  intro x hx
  obtain ⟨k, hk, rfl⟩ := List.getElem_of_mem hx
  have := h k hk
  rw [show gI days k = days[k] from by unfold gI; rw [List.getElem?_eq_getElem hk]; rfl] at this
  exact this
def bgB (l : List Tk) (days : List Int) : Bool := decide (days.length = l.length) && dysB days
def endE (l : List Tk) (days : List Int) : Int := if checkE l = 0 then (if bgB l days = true then 0 else 7) else checkE l
def endV (l : List Tk) (days : List Int) : Int := if endE l days = 0 then endsV l days else 0
set_option maxHeartbeats 1000000 in
theorem begin1_any (d : Int) (w : World) : Calls Try.prog 117 #[.int .i64 d] w fun e w' => e = .returned (.bool (!wi d 0 100000)) ∧ w = w' := by
  have c1 := fun W => jwithin_any d 0 100000 W
  generalize wi d 0 100000 = b at *
  have C1 := Lib.hid c1
  clear c1
  go_enter Try.func117, Try.ntmps117
  go_wp2_with fail
  refine (C1.out _).mono ?_
  rintro e w1 ⟨rfl, rfl⟩
  go_wp2
  go_ret
  exact ⟨rfl, rfl⟩
set_option maxRecDepth 20000 in
set_option maxHeartbeats 2000000 in
theorem begIdx_any (A : Option Addr) (len cap : Nat) (days : List Int) (w : World) (hm : len ≤ 9223372036854775807) (hx : Ints w w.heap.size A len days) :
    Calls Try.prog 123 #[.slice A len cap, .func (.func 117) #[] #[]] w fun e w' => (∃ R : Int, e = .returned (.int .i64 R) ∧ decide (0 ≤ R) = !dysB days) ∧ w = w' := by
  obtain rfl : days.length = len := hx.1
  have HX := Lib.hid hx
  clear hx
  go_enter Try.func123, Try.ntmps123
  go_wp2
  go_loopw [8] (fun i W => ∃ k : Nat, k ≤ days.length ∧ i = .int .i64 k ∧ Hid (∀ j, j < k → wi (gI days j) 0 100000 = true) ∧ w = W) (fun i _ => days.length - (intOf i).toNat)
  case atStart => exact ⟨0, Nat.zero_le _, rfl, Lib.hid (fun j hj => absurd hj (by omega)), rfl⟩
  case round =>
    obtain ⟨k, hk, rfl, hT, rfl⟩ := hrel
    by_cases hlt : k < days.length
    · obtain ⟨b, off, rfl, hb0, hc1⟩ := HX.out.at_ k hlt
      change w.cell? _ = some (.int .i64 (gI days k)) at hc1
      have c2 := begin1_any (gI days k) w
      have hk1 : (k : Int) < days.length := by omega
      have hk2 : ¬ days.length ≤ k := by omega
      cases hv : wi (gI days k) 0 100000
      · have HF : Hid (decide ((0 : Int) ≤ (k : Int)) = !dysB days) := Lib.hid (by rw [dysB_no hlt hv]; simp)
        rw [hv] at c2
        generalize gI days k = X at *
        have C2 := Lib.hid c2
        clear c2 hT hv
        go_wp2_with fail
        refine C2.out.mono ?_
        rintro e w1 ⟨rfl, rfl⟩
        go_wp2
        go_ret
        exact ⟨⟨_, rfl, HF.out⟩, rfl⟩
      · have hT2 : Hid (∀ j, j < k + 1 → wi (gI days j) 0 100000 = true) := Lib.hid (fun j hj => if e : j = k then (by rw [e]; exact hv) else hT.out j (by omega))
        rw [hv] at c2
        generalize gI days k = X at *
        have C2 := Lib.hid c2
        clear c2 hT hv
        go_wp2_with fail
        refine C2.out.mono ?_
        rintro e w1 ⟨rfl, rfl⟩
        go_wp2
        go_roundw
        case rel => exact ⟨k + 1, by omega, by go_num, hT2, by first | rfl | trivial⟩
        case measure => simp [intOf]; omega
    · have hk1 : ¬ (k : Int) < days.length := by omega
      have HF : Hid (decide ((0 : Int) ≤ -1) = !dysB days) := Lib.hid (by rw [dysB_yes fun j hj => hT.out j (by omega)]; rfl)
      clear hT
      go_wp2
      go_ret
      exact ⟨⟨_, rfl, HF.out⟩, rfl⟩
set_option maxHeartbeats 1000000 in
theorem begAny_any (A : Option Addr) (len cap : Nat) (days : List Int) (w : World) (hm : len ≤ 9223372036854775807) (hx : Ints w w.heap.size A len days) :
    Calls Try.prog 116 #[.slice A len cap, .func (.func 117) #[] #[]] w fun e w' => e = .returned (.bool (!dysB days)) ∧ w = w' := by
  have c1 := begIdx_any A len cap days w hm hx
  generalize dysB days = M at *
  have C1 := Lib.hid c1
  clear c1 hx
  go_enter Try.func116, Try.ntmps116
  go_wp2_with fail
  refine C1.out.mono ?_
  rintro e w1 ⟨⟨R, rfl, hR⟩, rfl⟩
  have HR := Lib.hid hR
  clear hR
  go_wp2
  go_ret
  exact ⟨ret_bool HR.out, rfl⟩
set_option maxHeartbeats 2000000 in
theorem begins_any (A : Option Addr) (len cap : Nat) (l : List Tk) (A' : Option Addr) (len' cap' : Nat) (days : List Int) (w : World) (hm : len ≤ 9223372036854775807) (hm' : len' ≤ 9223372036854775807) (hl : l.length = len) (hx : Ints w w.heap.size A' len' days) :
    Calls Try.prog 92 #[.slice A len cap, .slice A' len' cap'] w fun e w' => e = .returned (.bool (bgB l days)) ∧ w = w' := by
  obtain rfl : days.length = len' := hx.1
  subst hl
  have c1 := begAny_any A' days.length cap' days w hm' hx
  have HB : Hid (bgB l days = (decide (days.length = l.length) && dysB days)) := Lib.hid rfl
  generalize bgB l days = M at *
  generalize dysB days = D at *
  have C1 := Lib.hid c1
  clear c1 hx
  go_enter Try.func92, Try.ntmps92
  by_cases h : days.length = l.length
  · have h1 : (days.length : Int) = l.length := by omega
    have HF : Hid (M = D) := Lib.hid (by rw [HB.out, decide_eq_true h, Bool.true_and])
    have h2 : ((days.length : Int) == (l.length : Int)) = true := by simpa using h1
    clear HB h
    go_wp2_with fail
    refine C1.out.mono ?_
    rintro e w1 ⟨rfl, rfl⟩
    go_wp2
    go_ret
    exact ⟨by rw [HF.out]; simp, rfl⟩
  · have HF : Hid (M = false) := Lib.hid (by rw [HB.out, decide_eq_false h, Bool.false_and])
    have h2 : ((days.length : Int) == (l.length : Int)) = false := by simpa using (show ¬ (days.length : Int) = l.length by omega)
    clear HB
    go_wp2
    go_ret
    exact ⟨by rw [HF.out]; rfl, rfl⟩
set_option maxHeartbeats 4000000 in
theorem Ends_any (A : Option Addr) (len cap : Nat) (l : List Tk) (A' : Option Addr) (len' cap' : Nat) (days : List Int) (w : World) (hS : Sml l) (hm' : len' ≤ 9223372036854775807) (hx : Plan w w.heap.size A len l) (hy : Ints w w.heap.size A' len' days) :
    Calls Try.prog 46 #[.slice A len cap, .slice A' len' cap'] w fun e w' => e = .returned (.tuple #[.int .i64 (endV l days), .int .i64 (endE l days)]) ∧ Below w.heap.size w w' := by
  have hl := hx.1
  have c1 := Check_any A len cap l w hS hx
  have c2 := fun W (h : Below w.heap.size w W) => begins_any A len cap l A' len' cap' days W (by have := hS.len; omega) hm' hl ((hy.below h).more h.size)
  by_cases h0 : checkE l = 0
  · have hP := check_spec h0
    rw [h0] at c1
    cases hb : bgB l days
    · rw [hb] at c2
      have hE : endE l days = 7 := by unfold endE; rw [if_pos h0, hb]; rfl
      have hV : endV l days = 0 := by unfold endV; rw [hE]; rfl
      rw [hE, hV]
      have C1 := Lib.hid c1
      have C2 := Lib.hid c2
      clear c1 c2 hx hy hE hV h0 hP hb hl
      go_enter Try.func46, Try.ntmps46
      go_wp2_with fail
      refine C1.out.mono ?_
      rintro e w1 ⟨rfl, hb⟩
      have hB_w1 : Below w.heap.size w w1 := (by repeat (first | exact Below.refl _ _ | assumption | refine Below.setCell ?_ (by first | (simp; done) | (simp; omega) | omega) _ | refine Below.drew ?_ | refine below_drewN ?_ _ | refine Below.alloc ?_ (by first | (simp; done) | (simp; omega) | omega) _ | refine below_alloc ?_ _ | refine below_step ?_ (by assumption))); have hz_w1 := hB_w1.size; clear hb
      go_wp2_with fail
      refine (C2.out _ hB_w1).mono ?_
      rintro e w2 ⟨rfl, rfl⟩
      go_wp2
      go_ret2
      exact ⟨rfl, hB_w1⟩
    · rw [hb] at c2
      have hE : endE l days = 0 := by unfold endE; rw [if_pos h0, hb]; rfl
      have hV : endV l days = endsV l days := by unfold endV; rw [hE]; rfl
      have hbb := hb
      unfold bgB at hbb
      rw [Bool.and_eq_true, decide_eq_true_eq] at hbb
      have hll : days.length = len' := hy.1
      have hle : len' = len := by omega
      subst hle
      have c3 := fun W (h : Below w.heap.size w W) => ends_any A len' cap l A' cap' days W hP (hx.go h) ((hy.below h).more h.size) (dysB_bd hbb.2)
      rw [hE, hV]
      generalize endsV l days = V at *
      have C1 := Lib.hid c1
      have C2 := Lib.hid c2
      have C3 := Lib.hid c3
      clear c1 c2 c3 hx hy hE hV h0 hP hb hbb hl hll
      go_enter Try.func46, Try.ntmps46
      go_wp2_with fail
      refine C1.out.mono ?_
      rintro e w1 ⟨rfl, hb⟩
      have hB_w1 : Below w.heap.size w w1 := (by repeat (first | exact Below.refl _ _ | assumption | refine Below.setCell ?_ (by first | (simp; done) | (simp; omega) | omega) _ | refine Below.drew ?_ | refine below_drewN ?_ _ | refine Below.alloc ?_ (by first | (simp; done) | (simp; omega) | omega) _ | refine below_alloc ?_ _ | refine below_step ?_ (by assumption))); have hz_w1 := hB_w1.size; clear hb
      go_wp2_with fail
      refine (C2.out _ hB_w1).mono ?_
      rintro e w2 ⟨rfl, rfl⟩
      go_wp2_with fail
      refine (C3.out _ hB_w1).mono ?_
      rintro e w3 ⟨rfl, hb⟩
      have hB3 := hB_w1.trans (hb.mono hB_w1.size)
      clear hb
      go_wp2
      go_ret2
      exact ⟨rfl, hB3⟩
  · have hE : endE l days = checkE l := by unfold endE; rw [if_neg h0]
    have hV : endV l days = 0 := by unfold endV; rw [hE, if_neg h0]
    rw [hE, hV]
    have hne : (checkE l == 0) = false := by simpa using h0
    generalize checkE l = E at *
    have C1 := Lib.hid c1
    clear c1 c2 hx hy hE hV h0 hl
    go_enter Try.func46, Try.ntmps46
    go_wp2_with fail
    refine C1.out.mono ?_
    rintro e w1 ⟨rfl, hb⟩
    have hB_w1 : Below w.heap.size w w1 := (by repeat (first | exact Below.refl _ _ | assumption | refine Below.setCell ?_ (by first | (simp; done) | (simp; omega) | omega) _ | refine Below.drew ?_ | refine below_drewN ?_ _ | refine Below.alloc ?_ (by first | (simp; done) | (simp; omega) | omega) _ | refine below_alloc ?_ _ | refine below_step ?_ (by assumption))); have hz_w1 := hB_w1.size; clear hb
    go_wp2
    go_ret2
    exact ⟨rfl, hB_w1⟩
def lngV (l : List Tk) (k : Nat) : Int := sN (fun i => if 0 < dyA l i ∧ dyA l i ≤ 1000 then dyA l i else 0) k
theorem lngV_bd (l : List Tk) : ∀ k : Nat, 0 ≤ lngV l k ∧ lngV l k ≤ 1000 * k
  | 0 => by show (0 : Int) ≤ 0 ∧ (0 : Int) ≤ _; omega
  | k + 1 => by
    have := lngV_bd l k
    show 0 ≤ lngV l k + (if 0 < dyA l k ∧ dyA l k ≤ 1000 then dyA l k else 0) ∧ lngV l k + (if 0 < dyA l k ∧ dyA l k ≤ 1000 then dyA l k else 0) ≤ _
    split <;> omega
set_option maxRecDepth 20000 in
set_option maxHeartbeats 4000000 in
theorem long_any (A : Option Addr) (len cap : Nat) (l : List Tk) (w : World) (hm : len ≤ 1000) (hx : Plan w w.heap.size A len l) :
    Calls Try.prog 44 #[.slice A len cap] w fun e w' => e = .returned (.bool (decide (1500 < lngV l l.length))) ∧ Below w.heap.size w w' := by
  obtain rfl : l.length = len := hx.1
  have HX := Lib.hid hx
  clear hx
  go_enter Try.func44, Try.ntmps44
  go_wp2
  go_loopw [3, 4] (fun v i W => ∃ k : Nat, k ≤ l.length ∧ i = .int .i64 k ∧ v = .int .i64 (lngV l k) ∧ Below w.heap.size w W) (fun _ i _ => l.length - (intOf i).toNat)
  case atStart => exact ⟨0, Nat.zero_le _, rfl, rfl, Below.refl _ _⟩
  case round =>
    obtain ⟨k, hk, rfl, rfl, hB⟩ := hrel
    by_cases hlt : k < l.length
    · obtain ⟨b, off, rfl, hb0, -, hc2, -, -⟩ := (HX.out.below hB).at_ k hlt
      have hk1 : (k : Int) < l.length := by omega
      have hk2 : ¬ l.length ≤ k := by omega
      have hbd := lngV_bd l k
      have hn : lngV l (k + 1) = lngV l k + (if 0 < (tkA l k).dy ∧ (tkA l k).dy ≤ 1000 then (tkA l k).dy else 0) := rfl
      generalize (tkA l k).dy = Y at *
      generalize lngV l k = L at *
      by_cases h1 : 0 < Y
      · by_cases h2 : Y ≤ 1000
        · have HN : Hid (lngV l (k + 1) = L + Y) := Lib.hid (by rw [hn, if_pos ⟨h1, h2⟩])
          have hwr : wrap64 (L + Y) = L + Y := IntWalk.wrap64_in _ ⟨by omega, by omega⟩
          clear hn
          go_wp2
          go_roundw
          case rel => exact ⟨k + 1, by omega, by go_num, by rw [HN.out], hB⟩
          case measure => simp [intOf]; omega
        · have HN : Hid (lngV l (k + 1) = L) := Lib.hid (by rw [hn, if_neg (by omega)]; omega)
          clear hn
          go_wp2
          go_roundw
          case rel => exact ⟨k + 1, by omega, by go_num, by rw [HN.out], hB⟩
          case measure => simp [intOf]; omega
      · have HN : Hid (lngV l (k + 1) = L) := Lib.hid (by rw [hn, if_neg (by omega)]; omega)
        clear hn
        go_wp2
        go_roundw
        case rel => exact ⟨k + 1, by omega, by go_num, by rw [HN.out], hB⟩
        case measure => simp [intOf]; omega
    · have hkl : k = l.length := by omega
      have hk1 : ¬ (k : Int) < l.length := by omega
      subst hkl
      have HB := Lib.hid hB
      clear hB
      go_wp2
      go_ret
      exact ⟨rfl, HB.out⟩
end Go.Proofs.Ytgijekhlbkfanaa

namespace Go.Proofs.Ytgijekhlbkfanaa
open Go.RowKit Go.Shelf
attribute [local go_sem] Later.cell Same.cell

def mnG (l : List Tk) (days : List Int) (e : Int) (k : Nat) : Int := if gI days k ≤ e ∧ e < gI days k + dyA l k then mnA l k else 0
theorem menV_is (l : List Tk) (days : List Int) (e : Int) : menV l days e = sN (mnG l days e) l.length := rfl
theorem mnG_bd {l : List Tk} (hP : okP l) (days : List Int) (e : Int) : ∀ k : Nat, k ≤ l.length → 0 ≤ sN (mnG l days e) k ∧ sN (mnG l days e) k ≤ 16 * k
  | 0, _ => by show (0 : Int) ≤ 0 ∧ (0 : Int) ≤ _; omega
  | k + 1, hk => by
    have h1 := mnG_bd hP days e k (by omega)
    have h2 := mnA_bd hP (i := k) (by omega)
    show 0 ≤ sN (mnG l days e) k + mnG l days e k ∧ sN (mnG l days e) k + mnG l days e k ≤ _
    rw [show mnG l days e k = if gI days k ≤ e ∧ e < gI days k + dyA l k then mnA l k else 0 from rfl]
    split <;> omega
set_option maxRecDepth 20000 in
set_option maxHeartbeats 8000000 in
theorem men_any (A : Option Addr) (len cap : Nat) (l : List Tk) (A' : Option Addr) (cap' : Nat) (days : List Int) (e0 : Int) (w : World) (hP : okP l) (hx : Plan w w.heap.size A len l) (hy : Ints w w.heap.size A' len days) (hd : bdE 1000000 days) :
    Calls Try.prog 96 #[.slice A len cap, .slice A' len cap', .int .i64 e0] w fun e w' => e = .returned (.int .i64 (menV l days e0)) ∧ Below w.heap.size w w' := by
  obtain rfl : l.length = len := hx.1
  have hL := hP.len
  have HX := Lib.hid hx
  have HY := Lib.hid hy
  have HP := Lib.hid hP
  have HM := Lib.hid (fun k hk => mnG_bd hP days e0 k hk)
  have HD := Lib.hid hd
  rw [menV_is]
  clear hx hy hP hd
  go_enter Try.func96, Try.ntmps96
  go_wp2
  go_loopw [7, 12] (fun v i W => ∃ k : Nat, k ≤ l.length ∧ i = .int .i64 (k : Int) ∧ v = .int .i64 (sN (mnG l days e0) k) ∧ Below w.heap.size w W) (fun _ i _ => l.length - (intOf i).toNat)
  case atStart => exact ⟨0, Nat.zero_le _, rfl, rfl, Below.refl _ _⟩
  case round =>
    obtain ⟨k, hk, rfl, rfl, hB⟩ := hrel
    have hbs := hB.size
    by_cases hlt : k < l.length
    · obtain ⟨b, off, rfl, hb0, hc1, hc2, hc3, A'', n, cc, hc4, -, -, -⟩ := (HX.out.below hB).at_ k hlt
      obtain ⟨b2, off2, rfl, hb2, hc6⟩ := (HY.out.below hB).at_ k hlt
      change wr.cell? _ = some (.int .i64 (gI days k)) at hc6
      have hk1 : (k : Int) < l.length := by omega
      have hk2 : ¬ l.length ≤ k := by omega
      have hb1 : b < wr.heap.size := by omega
      have hb3 : b2 < wr.heap.size := by omega
      have hbn2 : ¬ b2 = wr.heap.size := by omega
      have hm := HM.out k (by omega)
      have hnx : sN (mnG l days e0) (k + 1) = sN (mnG l days e0) k + mnG l days e0 k := rfl
      have hda := dy_bd HP.out hlt
      have hmz := mnA_bd HP.out hlt
      have hdg := HD.out k
      rw [show mnG l days e0 k = if gI days k ≤ e0 ∧ e0 < gI days k + (tkA l k).dy then (tkA l k).mn else 0 from rfl] at hnx
      change 1 ≤ (tkA l k).dy ∧ (tkA l k).dy ≤ 1000 at hda
      change 1 ≤ (tkA l k).mn ∧ (tkA l k).mn ≤ 16 at hmz
      generalize (tkA l k).nm = X at *
      generalize (tkA l k).dy = Y at *
      generalize (tkA l k).mn = Z at *
      generalize gI days k = G at *
      generalize sN (mnG l days e0) k = M at *
      have hwr : wrap64 (G + Y) = G + Y := IntWalk.wrap64_in _ ⟨by omega, by omega⟩
      have hwr2 : wrap64 (G + Y - 1) = G + Y - 1 := IntWalk.wrap64_in _ ⟨by omega, by omega⟩
      have hwr3 : wrap64 (M + Z) = M + Z := IntWalk.wrap64_in _ ⟨by omega, by omega⟩
      have hca : (wr.alloc (.cells #[.string X, .int .i64 Y, .int .i64 Z, .slice A'' n cc] 43)).cell? ⟨b2, off2 + k, none⟩ = some (.int .i64 G) := cell_kept hc6 (World.grownBy_alloc wr _ none) (fun r e => by cases e)
      have cw := fun W => jwithin_any e0 G (G + Y - 1) W
      by_cases hin : G ≤ e0 ∧ e0 < G + Y
      · rw [show wi e0 G (G + Y - 1) = true from wi_iff.2 ⟨by omega, by omega⟩] at cw
        rw [if_pos hin] at hnx
        have HNX := Lib.hid hnx
        have CW := Lib.hid cw
        clear hnx cw hin
        go_wp2_with fail
        (refine wp_region_later (by kernel_rfl) (by kernel_rfl) ?_; (repeat (go_big_quiet_step ((go_at_call 56; exact later_same (CW.out _))))); refine wpQuiet_nil ?_)
        intro w3 hb3'
        have t2 : w3.cell? ⟨wr.heap.size, 2, none⟩ = some (.int .i64 Z) := (hb3'.cell (p := ⟨wr.heap.size, 2, none⟩) (by simp)).trans (by simp)
        have hB3 : Below w.heap.size w w3 := (hB.alloc hbs _).trans (hb3'.mono (by simp; omega))
        clear hb3' hca
        go_wp2
        go_roundw
        case rel => exact ⟨k + 1, by omega, by go_num, by rw [HNX.out], hB3⟩
        case measure => simp [intOf]; omega
      · rw [show wi e0 G (G + Y - 1) = false from by cases h : wi e0 G (G + Y - 1) with | false => rfl | true => have := wi_iff.1 h; exact absurd ⟨this.1, by omega⟩ hin] at cw
        rw [if_neg hin] at hnx
        have HNX : Hid (sN (mnG l days e0) (k + 1) = M) := Lib.hid (by rw [hnx]; omega)
        have CW := Lib.hid cw
        clear hnx cw hin
        go_wp2_with fail
        (refine wp_region_later (by kernel_rfl) (by kernel_rfl) ?_; (repeat (go_big_quiet_step ((go_at_call 56; exact later_same (CW.out _))))); refine wpQuiet_nil ?_)
        intro w3 hb3'
        have hB3 : Below w.heap.size w w3 := (hB.alloc hbs _).trans (hb3'.mono (by simp; omega))
        clear hb3' hca
        go_wp2
        go_roundw
        case rel => exact ⟨k + 1, by omega, by go_num, by rw [HNX.out], hB3⟩
        case measure => simp [intOf]; omega
    · have hkl : k = l.length := by omega
      have hk1 : ¬ (k : Int) < l.length := by omega
      have HB := Lib.hid hB
      subst hkl
      clear hB
      go_wp2
      go_ret
      exact ⟨rfl, HB.out⟩
def menE (l : List Tk) (days : List Int) (d : Int) : Int := if checkE l = 0 then (if bgB l days = true then (if wi d 0 200000 = true then 0 else 7) else 7) else checkE l
def menX (l : List Tk) (days : List Int) (d : Int) : Int := if menE l days d = 0 then menV l days d else 0
set_option maxHeartbeats 4000000 in
theorem Men_any (A : Option Addr) (len cap : Nat) (l : List Tk) (A' : Option Addr) (len' cap' : Nat) (days : List Int) (d : Int) (w : World) (hS : Sml l) (hm' : len' ≤ 9223372036854775807) (hx : Plan w w.heap.size A len l) (hy : Ints w w.heap.size A' len' days) :
    Calls Try.prog 51 #[.slice A len cap, .slice A' len' cap', .int .i64 d] w fun e w' => e = .returned (.tuple #[.int .i64 (menX l days d), .int .i64 (menE l days d)]) ∧ Below w.heap.size w w' := by
  have hl := hx.1
  have c1 := Check_any A len cap l w hS hx
  have c2 := fun W (h : Below w.heap.size w W) => begins_any A len cap l A' len' cap' days W (by have := hS.len; omega) hm' hl ((hy.below h).more h.size)
  have c4 := fun W => jwithin_any d 0 200000 W
  by_cases h0 : checkE l = 0
  · have hP := check_spec h0
    rw [h0] at c1
    cases hb : bgB l days
    · rw [hb] at c2
      have hE : menE l days d = 7 := by unfold menE; rw [if_pos h0, hb]; rfl
      have hV : menX l days d = 0 := by unfold menX; rw [hE]; rfl
      rw [hE, hV]
      have C1 := Lib.hid c1
      have C2 := Lib.hid c2
      clear c1 c2 c4 hx hy hE hV h0 hP hb hl
      go_enter Try.func51, Try.ntmps51
      go_wp2_with fail
      refine C1.out.mono ?_
      rintro e w1 ⟨rfl, hb⟩
      have hB_w1 : Below w.heap.size w w1 := (by repeat (first | exact Below.refl _ _ | assumption | refine Below.setCell ?_ (by first | (simp; done) | (simp; omega) | omega) _ | refine Below.drew ?_ | refine below_drewN ?_ _ | refine Below.alloc ?_ (by first | (simp; done) | (simp; omega) | omega) _ | refine below_alloc ?_ _ | refine below_step ?_ (by assumption))); have hz_w1 := hB_w1.size; clear hb
      go_wp2_with fail
      refine (C2.out _ hB_w1).mono ?_
      rintro e w2 ⟨rfl, rfl⟩
      go_wp2_with fail
      go_ret2
      exact ⟨rfl, hB_w1⟩
    · rw [hb] at c2
      cases hw : wi d 0 200000
      · rw [hw] at c4
        have hE : menE l days d = 7 := by unfold menE; rw [if_pos h0, hb, hw]; rfl
        have hV : menX l days d = 0 := by unfold menX; rw [hE]; rfl
        rw [hE, hV]
        have C1 := Lib.hid c1
        have C2 := Lib.hid c2
        have C4 := Lib.hid c4
        clear c1 c2 c4 hx hy hE hV h0 hP hb hl hw
        go_enter Try.func51, Try.ntmps51
        go_wp2_with fail
        refine C1.out.mono ?_
        rintro e w1 ⟨rfl, hb⟩
        have hB_w1 : Below w.heap.size w w1 := (by repeat (first | exact Below.refl _ _ | assumption | refine Below.setCell ?_ (by first | (simp; done) | (simp; omega) | omega) _ | refine Below.drew ?_ | refine below_drewN ?_ _ | refine Below.alloc ?_ (by first | (simp; done) | (simp; omega) | omega) _ | refine below_alloc ?_ _ | refine below_step ?_ (by assumption))); have hz_w1 := hB_w1.size; clear hb
        go_wp2_with fail
        refine (C2.out _ hB_w1).mono ?_
        rintro e w2 ⟨rfl, rfl⟩
        go_wp2_with fail
        refine (C4.out _).mono ?_
        rintro e w2 ⟨rfl, rfl⟩
        go_wp2_with fail
        go_ret2
        exact ⟨rfl, hB_w1⟩
      · rw [hw] at c4
        have hE : menE l days d = 0 := by unfold menE; rw [if_pos h0, hb, hw]; rfl
        have hV : menX l days d = menV l days d := by unfold menX; rw [hE]; rfl
        have hbb := hb
        unfold bgB at hbb
        rw [Bool.and_eq_true, decide_eq_true_eq] at hbb
        have hll : days.length = len' := hy.1
        have hle : len' = len := by omega
        subst hle
        have c3 := fun W (h : Below w.heap.size w W) => men_any A len' cap l A' cap' days d W hP (hx.go h) ((hy.below h).more h.size) (dysB_bd hbb.2)
        rw [hE, hV]
        generalize menV l days d = V at *
        have C1 := Lib.hid c1
        have C2 := Lib.hid c2
        have C3 := Lib.hid c3
        have C4 := Lib.hid c4
        clear c1 c2 c3 c4 hx hy hE hV h0 hP hb hbb hl hll hw
        go_enter Try.func51, Try.ntmps51
        go_wp2_with fail
        refine C1.out.mono ?_
        rintro e w1 ⟨rfl, hb⟩
        have hB_w1 : Below w.heap.size w w1 := (by repeat (first | exact Below.refl _ _ | assumption | refine Below.setCell ?_ (by first | (simp; done) | (simp; omega) | omega) _ | refine Below.drew ?_ | refine below_drewN ?_ _ | refine Below.alloc ?_ (by first | (simp; done) | (simp; omega) | omega) _ | refine below_alloc ?_ _ | refine below_step ?_ (by assumption))); have hz_w1 := hB_w1.size; clear hb
        go_wp2_with fail
        refine (C2.out _ hB_w1).mono ?_
        rintro e w2 ⟨rfl, rfl⟩
        go_wp2_with fail
        refine (C4.out _).mono ?_
        rintro e w2 ⟨rfl, rfl⟩
        go_wp2_with fail
        refine (C3.out _ hB_w1).mono ?_
        rintro e w3 ⟨rfl, hb⟩
        have hB3 := hB_w1.trans (hb.mono hB_w1.size)
        clear hb
        go_wp2_with fail
        go_ret2
        exact ⟨rfl, hB3⟩
  · have hE : menE l days d = checkE l := by unfold menE; rw [if_neg h0]
    have hV : menX l days d = 0 := by unfold menX; rw [hE, if_neg h0]
    rw [hE, hV]
    have hne : (checkE l == 0) = false := by simpa using h0
    generalize checkE l = E at *
    have C1 := Lib.hid c1
    clear c1 c2 c4 hx hy hE hV h0 hl
    go_enter Try.func51, Try.ntmps51
    go_wp2_with fail
    refine C1.out.mono ?_
    rintro e w1 ⟨rfl, hb⟩
    have hB_w1 : Below w.heap.size w w1 := (by repeat (first | exact Below.refl _ _ | assumption | refine Below.setCell ?_ (by first | (simp; done) | (simp; omega) | omega) _ | refine Below.drew ?_ | refine below_drewN ?_ _ | refine Below.alloc ?_ (by first | (simp; done) | (simp; omega) | omega) _ | refine below_alloc ?_ _ | refine below_step ?_ (by assumption))); have hz_w1 := hB_w1.size; clear hb
    go_wp2_with fail
    go_ret2
    exact ⟨rfl, hB_w1⟩
end Go.Proofs.Ytgijekhlbkfanaa

namespace Go.Proofs.Ytgijekhlbkfanaa
open Go.RowKit Go.Shelf Go.Maps
attribute [local go_sem] Later.cell Same.cell

structure RtR (Bl Bd Bn nb : Nat) (A : Option Addr) (cap : Nat) (l : List Tk) (A' : Option Addr) (cap' : Nat) (days : List Int) (w : World) : Prop where
  cl : w.cell? ⟨Bl, 0, none⟩ = some (.slice A l.length cap)
  cd : w.cell? ⟨Bd, 0, none⟩ = some (.slice A' l.length cap')
  cn : w.cell? ⟨Bn, 0, none⟩ = some (.map (some nb))
  map : MapN w nb l.length (fndM l l.length)
  pl : Plan w w.heap.size A l.length l
  dy : Ints w w.heap.size A' l.length days
theorem RtR.go {Bl Bd Bn nb : Nat} {A : Option Addr} {cap : Nat} {l : List Tk} {A' : Option Addr} {cap' : Nat} {days : List Int} {w w' : World} (h : RtR Bl Bd Bn nb A cap l A' cap' days w) (hb : Below w.heap.size w w') : RtR Bl Bd Bn nb A cap l A' cap' days w' :=
  have hc := fun b u (hu : w.cell? ⟨b, 0, none⟩ = some u) => (hb.cell (p := ⟨b, 0, none⟩) (World.block_lt_of_cell? w _ hu)).trans hu
  ⟨hc _ _ h.cl, hc _ _ h.cd, hc _ _ h.cn, h.map.below hb, h.pl.go hb, (h.dy.below hb).more hb.size⟩
def rt1 (l : List Tk) (days : List Int) (i : Nat) (s : ByteArray) : Bool := decide (gI days i < gI days (fnd l s) + dyA l (fnd l s))
set_option maxRecDepth 20000 in
set_option maxHeartbeats 4000000 in
theorem right11_any (s : ByteArray) (i Bi Bl Bd Bn nb : Nat) (A : Option Addr) (cap : Nat) (l : List Tk) (A' : Option Addr) (cap' : Nat) (days : List Int) (w : World) (hP : okP l) (hd : bdE 1000000 days) (hi : i < l.length) (hs : s.size ≤ 9223372036854775807) (hF : fnd l s < l.length) (hR : RtR Bl Bd Bn nb A cap l A' cap' days w) (hci : w.cell? ⟨Bi, 0, none⟩ = some (.int .i64 (i : Int))) :
    Calls Try.prog 94 #[.string s, .pointer (some ⟨Bd, 0, none⟩), .pointer (some ⟨Bi, 0, none⟩), .pointer (some ⟨Bn, 0, none⟩), .pointer (some ⟨Bl, 0, none⟩)] w fun e w' => e = .returned (.bool (rt1 l days i s)) ∧ Below w.heap.size w w' := by
  have hL := hP.len
  obtain ⟨h1, h2, h3, hM, hx, hy⟩ := hR
  have hlk : ∀ x : Later w, (Instr.lookup 68 (.map (some nb)) (.string s) false).run Try.prog x.val = .ok (.int .i64 ((fnd l s : Nat) : Int)) x.val := fun x => by
    have := MapV.run_int (t := 68) (hM.below x.h) lawS Try.underlying68 Try.underlying3 (zeroIn _) s (keyS hs)
    rw [fndM_at hF] at this
    exact this
  obtain ⟨b, off, rfl, hb0, hc1, hc2, hc3, -⟩ := hx.at_ (fnd l s) hF
  obtain ⟨b2, off2, rfl, hb2, hc6⟩ := hy.at_ i hi
  obtain ⟨b3, off3, e3, hb3, hc7⟩ := hy.at_ (fnd l s) hF
  injection e3 with e3
  injection e3 with e31 e32
  subst e31 e32
  change w.cell? _ = some (.int .i64 (gI days i)) at hc6
  change w.cell? _ = some (.int .i64 (gI days (fnd l s))) at hc7
  have hdi := hd i
  have hdf := hd (fnd l s)
  have hda := dy_bd hP hF
  have hv : rt1 l days i s = decide (gI days i < gI days (fnd l s) + (tkA l (fnd l s)).dy) := rfl
  rw [hv]
  change 1 ≤ (tkA l (fnd l s)).dy ∧ (tkA l (fnd l s)).dy ≤ 1000 at hda
  have g1 := World.block_lt_of_cell? w _ h1
  have g2 := World.block_lt_of_cell? w _ h2
  have g3 := World.block_lt_of_cell? w _ h3
  have g4 := World.block_lt_of_cell? w _ hci
  generalize (tkA l (fnd l s)).dy = Y at *
  generalize fnd l s = F at *
  generalize gI days i = Gi at *
  generalize gI days F = Gf at *
  have hwr : wrap64 (Gf + Y) = Gf + Y := IntWalk.wrap64_in _ ⟨by omega, by omega⟩
  have i1 : (i : Int) < l.length := by omega
  have i2 : ¬ l.length ≤ i := by omega
  have f1 : (F : Int) < l.length := by omega
  have f2 : ¬ l.length ≤ F := by omega
  clear hM hx hy hd hP hv hc1 hc3 hs
  go_enter Try.func94, Try.ntmps94
  go_wp2_with fail
  (refine wp_region_later (by kernel_rfl) (by kernel_rfl) ?_; (repeat (go_big_quiet_step ((fail)))); refine wpQuiet_nil ?_)
  intro w3 hb3
  go_wp2
  go_ret
  exact ⟨rfl, hb3⟩
set_option maxRecDepth 20000 in
set_option maxHeartbeats 2000000 in
theorem IdxRight_any (Bd Bi Bn Bl : Nat) (p : ByteArray → Bool) (A : Option Addr) (len cap : Nat) (ss : List ByteArray) (w : World) (hm : len ≤ 9223372036854775807) (hx : Strs w w.heap.size A len ss)
    (hc : ∀ s ∈ ss, ∀ W, Below w.heap.size w W → Calls Try.prog 94 #[.string s, .pointer (some ⟨Bd, 0, none⟩), .pointer (some ⟨Bi, 0, none⟩), .pointer (some ⟨Bn, 0, none⟩), .pointer (some ⟨Bl, 0, none⟩)] W fun e w' => e = .returned (.bool (p s)) ∧ Below W.heap.size W w') :
    Calls Try.prog 107 #[.slice A len cap, .func (.func 94) #[] #[.pointer (some ⟨Bd, 0, none⟩), .pointer (some ⟨Bi, 0, none⟩), .pointer (some ⟨Bn, 0, none⟩), .pointer (some ⟨Bl, 0, none⟩)]] w fun e w' => e = .returned (.int .i64 (fiS p ss)) ∧ Below w.heap.size w w' := by
  obtain rfl : ss.length = len := hx.1
  obtain ⟨R, hR⟩ : ∃ R, R = fiS p ss := ⟨_, rfl⟩
  rw [← hR]
  have HR := Lib.hid hR
  have C1 := Lib.hid hc
  have HX := Lib.hid hx
  clear hc hx hR
  go_enter Try.func107, Try.ntmps107
  go_wp2
  go_loopw [8] (fun i wr => ∃ k : Nat, k ≤ ss.length ∧ i = .int .i64 k ∧ Hid (∀ j, j < k → p (ssA ss j) = false) ∧ Below w.heap.size w wr) (fun i _ => ss.length - (intOf i).toNat)
  case atStart => exact ⟨0, Nat.zero_le _, rfl, Lib.hid (fun j hj => absurd hj (by omega)), Below.refl _ _⟩
  case round =>
    obtain ⟨k, hk, rfl, hT, hB⟩ := hrel
    have hbs := hB.size
    by_cases hlt : k < ss.length
    · obtain ⟨b, off, rfl, hb0, hc1⟩ := (HX.out.below hB).atS k hlt
      change wr.cell? _ = some (.string (ssA ss k)) at hc1
      have HN := Lib.hid (fun h => fiS_at hlt hT.out h)
      have HY := Lib.hid (fun h j (hj : j < k + 1) => if e : j = k then (by rw [e]; exact h : p (ssA ss j) = false) else hT.out j (by omega))
      have c2 := C1.out (ssA ss k) (ssA_mem hlt) wr hB
      have hk1 : (k : Int) < ss.length := by omega
      have hk2 : ¬ ss.length ≤ k := by omega
      generalize ssA ss k = X at *
      cases hv : p X
      · have h4 := Lib.hid (HY.out hv)
        rw [hv] at c2
        have C2 := Lib.hid c2
        clear c2 hv HN HY
        go_wp2_with fail
        refine C2.out.mono ?_
        rintro e w1 ⟨rfl, hb⟩
        have HB := Lib.hid (hB.trans (hb.mono hbs))
        clear hb hB
        go_wp2
        go_roundw
        case rel => exact ⟨k + 1, by omega, by go_num, h4, HB.out⟩
        case measure => simp [intOf]; omega
      · have h4 : Hid ((k : Int) = R) := Lib.hid (by rw [HR.out]; exact HN.out hv)
        rw [hv] at c2
        have C2 := Lib.hid c2
        clear c2 hv HN HY
        go_wp2_with fail
        refine C2.out.mono ?_
        rintro e w1 ⟨rfl, hb⟩
        have HB := Lib.hid (hB.trans (hb.mono hbs))
        clear hb hB
        go_wp2
        go_ret
        exact ⟨ret_int h4.out, HB.out⟩
    · have hfin : Hid ((-1 : Int) = R) := Lib.hid (by rw [HR.out]; exact fiS_no fun j hj => hT.out j (by omega))
      have hk1 : ¬ (k : Int) < ss.length := by omega
      have HB := Lib.hid hB
      clear hT hB
      go_wp2
      go_ret
      exact ⟨ret_int hfin.out, HB.out⟩
set_option maxHeartbeats 1000000 in
theorem ContRight_any (Bd Bi Bn Bl : Nat) (p : ByteArray → Bool) (A : Option Addr) (len cap : Nat) (ss : List ByteArray) (w : World) (hm : len ≤ 9223372036854775807) (hx : Strs w w.heap.size A len ss)
    (hc : ∀ s ∈ ss, ∀ W, Below w.heap.size w W → Calls Try.prog 94 #[.string s, .pointer (some ⟨Bd, 0, none⟩), .pointer (some ⟨Bi, 0, none⟩), .pointer (some ⟨Bn, 0, none⟩), .pointer (some ⟨Bl, 0, none⟩)] W fun e w' => e = .returned (.bool (p s)) ∧ Below W.heap.size W w') :
    Calls Try.prog 80 #[.slice A len cap, .func (.func 94) #[] #[.pointer (some ⟨Bd, 0, none⟩), .pointer (some ⟨Bi, 0, none⟩), .pointer (some ⟨Bn, 0, none⟩), .pointer (some ⟨Bl, 0, none⟩)]] w fun e w' => e = .returned (.bool (ss.any p)) ∧ Below w.heap.size w w' := by
  have c1 := IdxRight_any Bd Bi Bn Bl p A len cap ss w hm hx hc
  have hg := fiS_ge p ss
  generalize fiS p ss = I at *
  have C1 := Lib.hid c1
  have HG := Lib.hid hg
  clear c1 hx hc hg
  go_enter Try.func80, Try.ntmps80
  go_wp2_with fail
  refine C1.out.mono ?_
  rintro e w1 ⟨rfl, hb⟩
  have HB := Lib.hid hb
  clear hb
  go_wp2
  go_ret
  exact ⟨ret_bool HG.out, HB.out⟩
def rtA (l : List Tk) (days : List Int) (i : Nat) : Bool := !(tkA l i).af.any (rt1 l days i)
def rtB (l : List Tk) (c : Int) (days : List Int) (i : Nat) : Bool := decide (menV l days (gI days i) ≤ c)
set_option maxHeartbeats 4000000 in
theorem right1_any (i Bl Bd Bn nb : Nat) (A : Option Addr) (cap : Nat) (l : List Tk) (A' : Option Addr) (cap' : Nat) (days : List Int) (w : World) (hS : Sml l) (hP : okP l) (hd : bdE 1000000 days) (hi : i < l.length) (hR : RtR Bl Bd Bn nb A cap l A' cap' days w) :
    Calls Try.prog 93 #[.int .i64 i, .pointer (some ⟨Bl, 0, none⟩), .pointer (some ⟨Bd, 0, none⟩), .pointer (some ⟨Bn, 0, none⟩)] w fun e w' => e = .returned (.bool (rtA l days i)) ∧ Below w.heap.size w w' := by
  have hmf : ∀ (fn : Fn) (first cap : Array Value) (w : World), (Instr.makeFunc fn first cap).run Try.prog w = .ok (.func fn first cap) w := fun _ _ _ _ => rfl
  have hB1 : Below w.heap.size w (w.alloc (.cells #[.int .i64 (i : Int)] 3)) := (Below.refl _ w).alloc (Nat.le_refl _) _
  have hR1 := hR.go hB1
  have hci := (Boxed.new w 3 (.int .i64 (i : Int))).cell
  obtain ⟨b, off, rfl, hb0, -, -, -, Aa, n, cc, hc4, -, -, hSt⟩ := hR1.pl.at_ i hi
  obtain rfl : (tkA l i).af.length = n := hSt.1
  have hfew := hP.few i hi
  have c1 := ContRight_any Bd w.heap.size Bn Bl (rt1 l days i) Aa (tkA l i).af.length cc (tkA l i).af _ (by omega) hSt (fun s hs W hb => right11_any s i w.heap.size Bl Bd Bn nb _ cap l A' cap' days W hP hd hi (hS.an i hi s hs) (hP.known i hi s hs) (hR1.go hb) ((hb.cell (p := ⟨w.heap.size, 0, none⟩) (by simp)).trans hci))
  have hcl := hR1.cl
  have hv : rtA l days i = !(tkA l i).af.any (rt1 l days i) := rfl
  rw [hv]
  generalize (tkA l i).af.any (rt1 l days i) = V at *
  generalize (tkA l i).af.length = n at *
  have i1 : (i : Int) < l.length := by omega
  have i2 : ¬ l.length ≤ i := by omega
  have C1 := Lib.hid c1
  clear c1 hR hR1 hSt hv
  go_enter Try.func93, Try.ntmps93
  go_wp2_with fail
  refine C1.out.mono ?_
  rintro e w1 ⟨rfl, hb⟩
  have HB := Lib.hid (hB1.trans (hb.mono hB1.size))
  clear hb hB1
  go_wp2
  go_ret
  exact ⟨rfl, HB.out⟩
set_option maxHeartbeats 4000000 in
theorem right2_any (i Bl Bd Bn nb Bc : Nat) (A : Option Addr) (cap : Nat) (l : List Tk) (A' : Option Addr) (cap' : Nat) (days : List Int) (c : Int) (w : World) (hP : okP l) (hd : bdE 1000000 days) (hi : i < l.length) (hR : RtR Bl Bd Bn nb A cap l A' cap' days w) (hcc : w.cell? ⟨Bc, 0, none⟩ = some (.int .i64 c)) :
    Calls Try.prog 95 #[.int .i64 i, .pointer (some ⟨Bl, 0, none⟩), .pointer (some ⟨Bd, 0, none⟩), .pointer (some ⟨Bc, 0, none⟩)] w fun e w' => e = .returned (.bool (rtB l c days i)) ∧ Below w.heap.size w w' := by
  have c1 := fun W (h : Below w.heap.size w W) => men_any A l.length cap l A' cap' days (gI days i) W hP (hR.go h).pl (hR.go h).dy hd
  obtain ⟨h1, h2, -, -, -, hy⟩ := hR
  obtain ⟨b2, off2, rfl, hb2, hc6⟩ := hy.at_ i hi
  change w.cell? _ = some (.int .i64 (gI days i)) at hc6
  have hv : rtB l c days i = decide (menV l days (gI days i) ≤ c) := rfl
  rw [hv]
  generalize menV l days (gI days i) = V at *
  generalize gI days i = G at *
  have g1 := World.block_lt_of_cell? w _ h1
  have g2 := World.block_lt_of_cell? w _ h2
  have g4 := World.block_lt_of_cell? w _ hcc
  have i1 : (i : Int) < l.length := by omega
  have i2 : ¬ l.length ≤ i := by omega
  have C1 := Lib.hid c1
  clear c1 hy hP hd hv
  go_enter Try.func95, Try.ntmps95
  go_wp2_with fail
  (refine wp_region_later (by kernel_rfl) (by kernel_rfl) ?_; (repeat (go_big_quiet_step ((go_at_call 96; exact later_call (C1.out _ (‹Later _›).h))))); refine wpQuiet_nil ?_)
  intro w3 hb3
  go_wp2
  go_ret
  exact ⟨rfl, hb3⟩
end Go.Proofs.Ytgijekhlbkfanaa

namespace Go.Proofs.Ytgijekhlbkfanaa
open Go.RowKit Go.Shelf Go.Maps
attribute [local go_sem] Later.cell Same.cell

set_option maxRecDepth 20000 in
set_option maxHeartbeats 2000000 in
theorem right3a_any (i Bi p1 p2 p3 : Nat) (V : Bool) (w : World) (hci : w.cell? ⟨Bi, 0, none⟩ = some (.int .i64 (i : Int)))
    (hc : ∀ W, Below w.heap.size w W → Calls Try.prog 93 #[.int .i64 (i : Int), .pointer (some ⟨p1, 0, none⟩), .pointer (some ⟨p2, 0, none⟩), .pointer (some ⟨p3, 0, none⟩)] W fun e w' => e = .returned (.bool V) ∧ Below W.heap.size W w') :
    Calls Try.prog 98 #[.agg #[.func (.func 93) #[] #[.pointer (some ⟨p1, 0, none⟩), .pointer (some ⟨p2, 0, none⟩), .pointer (some ⟨p3, 0, none⟩)]], .pointer (some ⟨Bi, 0, none⟩)] w fun e w' => e = .returned (.bool (!V)) ∧ Below w.heap.size w w' := by
  have g4 := World.block_lt_of_cell? w _ hci
  have hci1 : (w.alloc (.cells #[.func (.func 93) #[] #[.pointer (some ⟨p1, 0, none⟩), .pointer (some ⟨p2, 0, none⟩), .pointer (some ⟨p3, 0, none⟩)]] 87)).cell? ⟨Bi, 0, none⟩ = some (.int .i64 (i : Int)) := cell_kept hci (World.grownBy_alloc w _ none) (fun r e => by cases e)
  have C1 := Lib.hid hc
  clear hc
  go_enter Try.func98, Try.ntmps98
  go_wp2_with fail
  refine (C1.out _ (by repeat (first | exact Below.refl _ _ | assumption | refine Below.setCell ?_ (by first | (simp; done) | (simp; omega) | omega) _ | refine Below.drew ?_ | refine below_drewN ?_ _ | refine Below.alloc ?_ (by first | (simp; done) | (simp; omega) | omega) _ | refine below_alloc ?_ _ | refine below_step ?_ (by assumption)))).mono ?_
  rintro e w1 ⟨rfl, hb⟩
  have HB : Hid (Below w.heap.size w w1) := Lib.hid (by repeat (first | exact Below.refl _ _ | assumption | refine Below.setCell ?_ (by first | (simp; done) | (simp; omega) | omega) _ | refine Below.drew ?_ | refine below_drewN ?_ _ | refine Below.alloc ?_ (by first | (simp; done) | (simp; omega) | omega) _ | refine below_alloc ?_ _ | refine below_step ?_ (by assumption)))
  clear hb
  go_wp2
  go_ret
  exact ⟨rfl, HB.out⟩
set_option maxRecDepth 20000 in
set_option maxHeartbeats 2000000 in
theorem right3b_any (i Bi p1 p2 p3 : Nat) (V : Bool) (w : World) (hci : w.cell? ⟨Bi, 0, none⟩ = some (.int .i64 (i : Int)))
    (hc : ∀ W, Below w.heap.size w W → Calls Try.prog 95 #[.int .i64 (i : Int), .pointer (some ⟨p1, 0, none⟩), .pointer (some ⟨p2, 0, none⟩), .pointer (some ⟨p3, 0, none⟩)] W fun e w' => e = .returned (.bool V) ∧ Below W.heap.size W w') :
    Calls Try.prog 98 #[.agg #[.func (.func 95) #[] #[.pointer (some ⟨p1, 0, none⟩), .pointer (some ⟨p2, 0, none⟩), .pointer (some ⟨p3, 0, none⟩)]], .pointer (some ⟨Bi, 0, none⟩)] w fun e w' => e = .returned (.bool (!V)) ∧ Below w.heap.size w w' := by
  have g4 := World.block_lt_of_cell? w _ hci
  have hci1 : (w.alloc (.cells #[.func (.func 95) #[] #[.pointer (some ⟨p1, 0, none⟩), .pointer (some ⟨p2, 0, none⟩), .pointer (some ⟨p3, 0, none⟩)]] 87)).cell? ⟨Bi, 0, none⟩ = some (.int .i64 (i : Int)) := cell_kept hci (World.grownBy_alloc w _ none) (fun r e => by cases e)
  have C1 := Lib.hid hc
  clear hc
  go_enter Try.func98, Try.ntmps98
  go_wp2_with fail
  refine (C1.out _ (by repeat (first | exact Below.refl _ _ | assumption | refine Below.setCell ?_ (by first | (simp; done) | (simp; omega) | omega) _ | refine Below.drew ?_ | refine below_drewN ?_ _ | refine Below.alloc ?_ (by first | (simp; done) | (simp; omega) | omega) _ | refine below_alloc ?_ _ | refine below_step ?_ (by assumption)))).mono ?_
  rintro e w1 ⟨rfl, hb⟩
  have HB : Hid (Below w.heap.size w w1) := Lib.hid (by repeat (first | exact Below.refl _ _ | assumption | refine Below.setCell ?_ (by first | (simp; done) | (simp; omega) | omega) _ | refine Below.drew ?_ | refine below_drewN ?_ _ | refine Below.alloc ?_ (by first | (simp; done) | (simp; omega) | omega) _ | refine below_alloc ?_ _ | refine below_step ?_ (by assumption)))
  clear hb
  go_wp2
  go_ret
  exact ⟨rfl, HB.out⟩
set_option maxRecDepth 20000 in
set_option maxHeartbeats 4000000 in
theorem keepIdx_any (i Bi Bl Bd Bn Bc g : Nat) (V1 V2 : Bool) (w : World) (hci : w.cell? ⟨Bi, 0, none⟩ = some (.int .i64 (i : Int))) (hg0 : w.cell? ⟨g, 0, none⟩ = some (.func (.func 93) #[] #[.pointer (some ⟨Bl, 0, none⟩), .pointer (some ⟨Bd, 0, none⟩), .pointer (some ⟨Bn, 0, none⟩)])) (hg1 : w.cell? ⟨g, 1, none⟩ = some (.func (.func 95) #[] #[.pointer (some ⟨Bl, 0, none⟩), .pointer (some ⟨Bd, 0, none⟩), .pointer (some ⟨Bc, 0, none⟩)]))
    (hc1 : ∀ W, Below w.heap.size w W → Calls Try.prog 93 #[.int .i64 (i : Int), .pointer (some ⟨Bl, 0, none⟩), .pointer (some ⟨Bd, 0, none⟩), .pointer (some ⟨Bn, 0, none⟩)] W fun e w' => e = .returned (.bool V1) ∧ Below W.heap.size W w')
    (hc2 : ∀ W, Below w.heap.size w W → Calls Try.prog 95 #[.int .i64 (i : Int), .pointer (some ⟨Bl, 0, none⟩), .pointer (some ⟨Bd, 0, none⟩), .pointer (some ⟨Bc, 0, none⟩)] W fun e w' => e = .returned (.bool V2) ∧ Below W.heap.size W w') :
    Calls Try.prog 118 #[.slice (some ⟨g, 0, none⟩) 2 2, .func (.func 98) #[] #[.pointer (some ⟨Bi, 0, none⟩)]] w fun e w' => (∃ R : Int, e = .returned (.int .i64 R) ∧ decide (0 ≤ R) = !(V1 && V2)) ∧ Below w.heap.size w w' := by
  have gi := World.block_lt_of_cell? w _ hci
  have gg := World.block_lt_of_cell? w _ hg0
  have c1 := fun W (h : Below w.heap.size w W) => right3a_any i Bi Bl Bd Bn V1 W ((h.cell (p := ⟨Bi, 0, none⟩) gi).trans hci) (fun W' h' => hc1 W' (h.trans (h'.mono h.size)))
  have c2 := fun W (h : Below w.heap.size w W) => right3b_any i Bi Bl Bd Bc V2 W ((h.cell (p := ⟨Bi, 0, none⟩) gi).trans hci) (fun W' h' => hc2 W' (h.trans (h'.mono h.size)))
  have C1 := Lib.hid c1
  have C2 := Lib.hid c2
  have H0 := Lib.hid hg0
  have H1 := Lib.hid hg1
  clear c1 c2 hc1 hc2 hci hg0 hg1
  go_enter Try.func118, Try.ntmps118
  go_wp2
  go_loopw [8] (fun i' W => (i' = .int .i64 0 ∨ (i' = .int .i64 1 ∧ Hid (V1 = true)) ∨ (i' = .int .i64 2 ∧ Hid (V1 = true ∧ V2 = true))) ∧ Below w.heap.size w W) (fun i' _ => 2 - (intOf i').toNat)
  case atStart => exact ⟨.inl rfl, Below.refl _ _⟩
  case round =>
    obtain ⟨hi', hB⟩ := hrel
    have hbs := hB.size
    have h0 := (hB.cell (p := ⟨g, 0, none⟩) gg).trans H0.out
    have h1 := (hB.cell (p := ⟨g, 1, none⟩) gg).trans H1.out
    rcases hi' with rfl | ⟨rfl, hV⟩ | ⟨rfl, hV⟩
    · cases V1
      · have HF : Hid (decide ((0 : Int) ≤ 0) = !(false && V2)) := Lib.hid rfl
        go_wp2_with fail
        refine (C1.out _ hB).mono ?_
        rintro e w1 ⟨rfl, hb⟩
        have HB := Lib.hid (hB.trans (hb.mono hbs))
        clear hb hB h0 h1
        go_wp2
        go_ret
        exact ⟨⟨0, rfl, HF.out⟩, HB.out⟩
      · go_wp2_with fail
        refine (C1.out _ hB).mono ?_
        rintro e w1 ⟨rfl, hb⟩
        have HB := Lib.hid (hB.trans (hb.mono hbs))
        clear hb hB h0 h1
        go_wp2
        go_roundw
        case rel => exact ⟨.inr (.inl ⟨rfl, by first | exact Lib.hid rfl | exact Lib.hid trivial⟩), HB.out⟩
        case measure => simp [intOf]
    · cases V2
      · have HF : Hid (decide ((0 : Int) ≤ 1) = !(V1 && false)) := Lib.hid (by rw [Bool.and_false]; rfl)
        go_wp2_with fail
        refine (C2.out _ hB).mono ?_
        rintro e w1 ⟨rfl, hb⟩
        have HB := Lib.hid (hB.trans (hb.mono hbs))
        clear hb hB h0 h1
        go_wp2
        go_ret
        exact ⟨⟨1, rfl, HF.out⟩, HB.out⟩
      · go_wp2_with fail
        refine (C2.out _ hB).mono ?_
        rintro e w1 ⟨rfl, hb⟩
        have HB := Lib.hid (hB.trans (hb.mono hbs))
        clear hb hB h0 h1
        go_wp2
        go_roundw
        case rel => exact ⟨.inr (.inr ⟨rfl, by first | exact Lib.hid ⟨hV.out, rfl⟩ | exact Lib.hid ⟨hV.out, trivial⟩ | exact hV⟩), HB.out⟩
        case measure => simp [intOf]
    · have HF : Hid (decide ((0 : Int) ≤ -1) = !(V1 && V2)) := Lib.hid (by rw [hV.out.1, hV.out.2]; rfl)
      have HB := Lib.hid hB
      clear hB h0 h1
      go_wp2
      go_ret
      exact ⟨⟨-1, rfl, HF.out⟩, HB.out⟩
set_option maxHeartbeats 1000000 in
theorem keepAny_any (i Bi Bl Bd Bn Bc g : Nat) (V1 V2 : Bool) (w : World) (hci : w.cell? ⟨Bi, 0, none⟩ = some (.int .i64 (i : Int))) (hg0 : w.cell? ⟨g, 0, none⟩ = some (.func (.func 93) #[] #[.pointer (some ⟨Bl, 0, none⟩), .pointer (some ⟨Bd, 0, none⟩), .pointer (some ⟨Bn, 0, none⟩)])) (hg1 : w.cell? ⟨g, 1, none⟩ = some (.func (.func 95) #[] #[.pointer (some ⟨Bl, 0, none⟩), .pointer (some ⟨Bd, 0, none⟩), .pointer (some ⟨Bc, 0, none⟩)]))
    (hc1 : ∀ W, Below w.heap.size w W → Calls Try.prog 93 #[.int .i64 (i : Int), .pointer (some ⟨Bl, 0, none⟩), .pointer (some ⟨Bd, 0, none⟩), .pointer (some ⟨Bn, 0, none⟩)] W fun e w' => e = .returned (.bool V1) ∧ Below W.heap.size W w')
    (hc2 : ∀ W, Below w.heap.size w W → Calls Try.prog 95 #[.int .i64 (i : Int), .pointer (some ⟨Bl, 0, none⟩), .pointer (some ⟨Bd, 0, none⟩), .pointer (some ⟨Bc, 0, none⟩)] W fun e w' => e = .returned (.bool V2) ∧ Below W.heap.size W w') :
    Calls Try.prog 97 #[.slice (some ⟨g, 0, none⟩) 2 2, .func (.func 98) #[] #[.pointer (some ⟨Bi, 0, none⟩)]] w fun e w' => e = .returned (.bool (!(V1 && V2))) ∧ Below w.heap.size w w' := by
  have c1 := keepIdx_any i Bi Bl Bd Bn Bc g V1 V2 w hci hg0 hg1 hc1 hc2
  have C1 := Lib.hid c1
  generalize (V1 && V2) = V at *
  clear c1 hc1 hc2 hci hg0 hg1
  go_enter Try.func97, Try.ntmps97
  go_wp2_with fail
  refine C1.out.mono ?_
  rintro e w1 ⟨⟨R, rfl, hR⟩, hb⟩
  have HR := Lib.hid hR
  have HB := Lib.hid hb
  clear hR hb
  go_wp2
  go_ret
  exact ⟨ret_bool HR.out, HB.out⟩
def rightA (l : List Tk) (c : Int) (days : List Int) : Bool := (List.range l.length).all fun i => rtA l days i && rtB l c days i
def rightV (l : List Tk) (c : Int) (days : List Int) : Bool := decide (checkE l = 0) && (bgB l days && (wi c 1 100 && rightA l c days))
theorem rightA_no {l : List Tk} {c : Int} {days : List Int} {k : Nat} (hk : k < l.length) (h : (rtA l days k && rtB l c days k) = false) : rightA l c days = false := by
  cases hd : rightA l c days with
  | false => rfl
  | true =>
    have := List.all_eq_true.1 hd k (List.mem_range.2 hk)
    rw [h] at this; cases this
theorem rightA_yes {l : List Tk} {c : Int} {days : List Int} (h : ∀ k, k < l.length → (rtA l days k && rtB l c days k) = true) : rightA l c days = true := by
  unfold rightA
  rw [List.all_eq_true]
  exact fun i hi => h i (List.mem_range.1 hi)
set_option maxRecDepth 20000 in
set_option maxHeartbeats 8000000 in
theorem Right_any (A : Option Addr) (len cap : Nat) (l : List Tk) (c : Int) (A' : Option Addr) (len' cap' : Nat) (days : List Int) (w : World) (hS : Sml l) (hm' : len' ≤ 9223372036854775807) (hx : Plan w w.heap.size A len l) (hy : Ints w w.heap.size A' len' days) :
    Calls Try.prog 47 #[.slice A len cap, .int .i64 c, .slice A' len' cap'] w fun e w' => e = .returned (.bool (rightV l c days)) ∧ Below w.heap.size w w' := by
  obtain rfl : l.length = len := hx.1
  have c1 := fun W (h : Below w.heap.size w W) => Check_any A l.length cap l W hS (hx.go h)
  have c2 := fun W (h : Below w.heap.size w W) => begins_any A l.length cap l A' len' cap' days W (by have := hS.len; omega) hm' rfl ((hy.below h).more h.size)
  have c3 := fun W => jwithin_any c 1 100 W
  have c4 := fun W (h : Below w.heap.size w W) => byName_any A l.length cap l W hS (hx.go h)
  obtain ⟨V, hV⟩ : ∃ V, V = rightV l c days := ⟨_, rfl⟩
  rw [← hV]
  unfold rightV at hV
  have HV := Lib.hid hV
  obtain ⟨W0, hW0⟩ : ∃ W0, W0 = ((w.alloc (.cells #[.slice A l.length cap] 31)).alloc (.cells #[.int .i64 c] 3)).alloc (.cells #[.slice A' len' cap'] 32) := ⟨_, rfl⟩
  have hs0 : W0.heap.size = w.heap.size + 1 + 1 + 1 := by rw [hW0]; simp
  have hB0 : Below w.heap.size w W0 := by rw [hW0]; exact (((Below.refl _ _).alloc (Nat.le_refl _) _).alloc (by simp) _).alloc (by simp; omega) _
  have q0 : W0.cell? ⟨w.heap.size, 0, none⟩ = some (.slice A l.length cap) := by rw [hW0]; exact (((Boxed.new w 31 (.slice A l.length cap)).alloc _).alloc _).cell
  have q1 : W0.cell? ⟨w.heap.size + 1, 0, none⟩ = some (.int .i64 c) := by
    have := ((Boxed.new (w.alloc (.cells #[.slice A l.length cap] 31)) 3 (.int .i64 c)).alloc (.cells #[.slice A' len' cap'] 32)).cell
    rw [World.size_alloc] at this; rw [hW0]; exact this
  have q2 : W0.cell? ⟨w.heap.size + 1 + 1, 0, none⟩ = some (.slice A' len' cap') := by
    have := (Boxed.new ((w.alloc (.cells #[.slice A l.length cap] 31)).alloc (.cells #[.int .i64 c] 3)) 32 (.slice A' len' cap')).cell
    rw [World.size_alloc, World.size_alloc] at this; rw [hW0]; exact this
  have hmf : ∀ (fn : Fn) (first cap : Array Value) (w : World), (Instr.makeFunc fn first cap).run Try.prog w = .ok (.func fn first cap) w := fun _ _ _ _ => rfl
  have C1 := Lib.hid c1
  have C2 := Lib.hid c2
  have C3 := Lib.hid c3
  have C4 := Lib.hid c4
  have HX := Lib.hid hx
  have HY := Lib.hid hy
  have HS := Lib.hid hS
  clear c1 c2 c3 c4 hx hy hS hV
  go_enter Try.func47, Try.ntmps47
  go_wp2_with fail
  rw [← hW0]
  clear hW0
  refine (C1.out _ hB0).mono ?_
  rintro e w1 ⟨rfl, hb⟩
  have hB1 := hB0.trans (hb.mono (by omega))
  have p0 := (hb.cell (p := ⟨w.heap.size, 0, none⟩) (show w.heap.size < _ by omega)).trans q0
  have p1 := (hb.cell (p := ⟨w.heap.size + 1, 0, none⟩) (show w.heap.size + 1 < _ by omega)).trans q1
  have p2 := (hb.cell (p := ⟨w.heap.size + 1 + 1, 0, none⟩) (show w.heap.size + 1 + 1 < _ by omega)).trans q2
  have hs1 : w.heap.size + 1 + 1 + 1 ≤ w1.heap.size := by have := hb.size; omega
  have HB1 := Lib.hid hB1
  clear hb q0 q1 q2 hB0 hB1 hs0 C1
  by_cases h0 : checkE l = 0
  case neg =>
    have HF : Hid (false = V) := Lib.hid (by rw [HV.out, decide_eq_false h0]; rfl)
    have hne : (checkE l == 0) = false := by simpa using h0
    generalize checkE l = E at *
    clear HV
    go_wp2_with fail
    go_ret
    exact ⟨ret_bool HF.out, HB1.out⟩
  rw [decide_eq_true h0, Bool.true_and] at HV
  have HP := Lib.hid (check_spec h0)
  rw [h0]
  clear h0
  have c2 := C2.out _ HB1.out
  cases hb2 : bgB l days
  case false =>
    rw [hb2] at c2 HV
    have C2' := Lib.hid c2
    have HF : Hid (false = V) := Lib.hid (by rw [HV.out]; rfl)
    clear HV c2 C2 hb2
    go_wp2_with fail
    refine C2'.out.mono ?_
    rintro e w2 ⟨rfl, rfl⟩
    go_wp2_with fail
    go_ret
    exact ⟨ret_bool HF.out, HB1.out⟩
  have hbb := hb2
  unfold bgB at hbb
  rw [Bool.and_eq_true, decide_eq_true_eq] at hbb
  rw [hb2, Bool.true_and] at HV
  rw [hb2] at c2
  have C2' := Lib.hid c2
  have HDB := Lib.hid (dysB_bd hbb.2)
  have hll : days.length = len' := HY.out.1
  have hle : len' = l.length := by omega
  subst hle
  clear hbb hll hb2 c2 C2
  have c3 := C3.out w1
  cases hw : wi c 1 100
  case false =>
    rw [hw] at c3 HV
    have C3' := Lib.hid c3
    have HF : Hid (false = V) := Lib.hid (by rw [HV.out]; rfl)
    clear HV c3 C3 hw
    go_wp2_with fail
    refine C2'.out.mono ?_
    rintro e w2 ⟨rfl, rfl⟩
    go_wp2_with fail
    refine C3'.out.mono ?_
    rintro e w2 ⟨rfl, rfl⟩
    go_wp2_with fail
    go_ret
    exact ⟨ret_bool HF.out, HB1.out⟩
  rw [hw, Bool.true_and] at HV
  rw [hw] at c3
  have C3' := Lib.hid c3
  clear c3 C3 hw
  go_wp2_with fail
  refine C2'.out.mono ?_
  rintro e w2 ⟨rfl, rfl⟩
  go_wp2_with fail
  refine C3'.out.mono ?_
  rintro e w2 ⟨rfl, rfl⟩
  go_wp2_with fail
  refine (C4.out _ HB1.out).mono ?_
  rintro e w2 ⟨⟨nb, rfl, hnb, hM⟩, hb⟩
  clear C2' C3' C4
  have b0 := (hb.cell (p := ⟨w.heap.size, 0, none⟩) (show w.heap.size < _ by omega)).trans p0
  have b1 := (hb.cell (p := ⟨w.heap.size + 1, 0, none⟩) (show w.heap.size + 1 < _ by omega)).trans p1
  have b2 := (hb.cell (p := ⟨w.heap.size + 1 + 1, 0, none⟩) (show w.heap.size + 1 + 1 < _ by omega)).trans p2
  have hs2 := hb.size
  have HB2 := Lib.hid (HB1.out.trans (hb.mono HB1.out.size))
  have HM := Lib.hid hM
  have ba := cell_kept (cell_kept b0 (World.grownBy_alloc w2 (.cells #[.map (some nb)] 68) none) (fun r e => by cases e)) (World.grownBy_alloc _ (.cells #[.func (.func 93) #[] #[.pointer (some ⟨w.heap.size, 0, none⟩), .pointer (some ⟨w.heap.size + 1 + 1, 0, none⟩), .pointer (some ⟨w2.heap.size, 0, none⟩)], .func (.func 95) #[] #[.pointer (some ⟨w.heap.size, 0, none⟩), .pointer (some ⟨w.heap.size + 1 + 1, 0, none⟩), .pointer (some ⟨w.heap.size + 1, 0, none⟩)]] 87) none) (fun r e => by cases e)
  clear hb p0 p1 p2 hM
  go_wp2_with fail
  obtain ⟨WK, hWK⟩ : ∃ WK, WK = (w2.alloc (.cells #[.map (some nb)] 68)).alloc (.cells #[.func (.func 93) #[] #[.pointer (some ⟨w.heap.size, 0, none⟩), .pointer (some ⟨w.heap.size + 1 + 1, 0, none⟩), .pointer (some ⟨w2.heap.size, 0, none⟩)], .func (.func 95) #[] #[.pointer (some ⟨w.heap.size, 0, none⟩), .pointer (some ⟨w.heap.size + 1 + 1, 0, none⟩), .pointer (some ⟨w.heap.size + 1, 0, none⟩)]] 87) := ⟨_, rfl⟩
  rw [← hWK]
  have hbk : Below w2.heap.size w2 WK := by rw [hWK]; exact ((Below.refl _ _).alloc (Nat.le_refl _) _).alloc (by simp) _
  have hsk : WK.heap.size = w2.heap.size + 1 + 1 := by rw [hWK]; simp
  have k1 : WK.cell? ⟨w2.heap.size, 0, none⟩ = some (.map (some nb)) := by rw [hWK]; exact ((Boxed.new w2 68 (.map (some nb))).alloc _).cell
  have k2 : ∀ j u, ([.func (.func 93) #[] #[.pointer (some ⟨w.heap.size, 0, none⟩), .pointer (some ⟨w.heap.size + 1 + 1, 0, none⟩), .pointer (some ⟨w2.heap.size, 0, none⟩)], .func (.func 95) #[] #[.pointer (some ⟨w.heap.size, 0, none⟩), .pointer (some ⟨w.heap.size + 1 + 1, 0, none⟩), .pointer (some ⟨w.heap.size + 1, 0, none⟩)]] : List Value)[j]? = some u → WK.cell? ⟨w2.heap.size + 1, j, none⟩ = some u := fun j u hj => by
    rw [hWK]
    have hn := World.alloc_heap_new (w2.alloc (.cells #[.map (some nb)] 68)) (.cells #[.func (.func 93) #[] #[.pointer (some ⟨w.heap.size, 0, none⟩), .pointer (some ⟨w.heap.size + 1 + 1, 0, none⟩), .pointer (some ⟨w2.heap.size, 0, none⟩)], .func (.func 95) #[] #[.pointer (some ⟨w.heap.size, 0, none⟩), .pointer (some ⟨w.heap.size + 1 + 1, 0, none⟩), .pointer (some ⟨w.heap.size + 1, 0, none⟩)]] 87)
    rw [World.size_alloc] at hn
    unfold World.cell?
    dsimp only
    rw [hn]
    simpa using hj
  have g0 := k2 0 _ rfl
  have g1 := k2 1 _ rfl
  have hRK : RtR w.heap.size (w.heap.size + 1 + 1) w2.heap.size nb A cap l A' cap' days WK :=
    ⟨(hbk.cell (p := ⟨w.heap.size, 0, none⟩) (show w.heap.size < _ by omega)).trans b0, (hbk.cell (p := ⟨w.heap.size + 1 + 1, 0, none⟩) (show w.heap.size + 1 + 1 < _ by omega)).trans b2, k1, HM.out.below hbk, (HX.out.go HB2.out).go hbk, (((HY.out.below HB2.out).more HB2.out.size).below hbk).more hbk.size⟩
  have hcK := (hbk.cell (p := ⟨w.heap.size + 1, 0, none⟩) (show w.heap.size + 1 < _ by omega)).trans b1
  have HBK := Lib.hid (HB2.out.trans (hbk.mono HB2.out.size))
  have HRK := Lib.hid hRK
  have HCK := Lib.hid hcK
  have HG0 := Lib.hid g0
  have HG1 := Lib.hid g1
  have hlg : w2.heap.size + 1 < WK.heap.size := by omega
  have hlc : w.heap.size + 1 < WK.heap.size := by omega
  have hL : l.length ≤ 20 := HP.out.len
  clear hWK hbk k1 k2 g0 g1 hRK hcK b0 b1 b2 ba HM HB2 HB1 hnb hsk
  go_loopw [33] (fun i W => ∃ k : Nat, k ≤ l.length ∧ i = .int .i64 (k : Int) ∧ Hid (∀ j, j < k → (rtA l days j && rtB l c days j) = true) ∧ Hid (Below WK.heap.size WK W)) (fun i _ => l.length - (intOf i).toNat)
  case atStart => exact ⟨0, Nat.zero_le _, rfl, Lib.hid (fun j hj => absurd hj (by omega)), Lib.hid (Below.refl _ _)⟩
  case round =>
    obtain ⟨k, hk, rfl, hT, HB⟩ := hrel
    have hbs := HB.out.size
    by_cases hlt : k < l.length
    · have hB1 : Below WK.heap.size WK (wr.alloc (.cells #[.int .i64 (k : Int)] 3)) := HB.out.alloc hbs _
      have hR1 := HRK.out.go hB1
      have hc1 := (hB1.cell (p := ⟨w.heap.size + 1, 0, none⟩) hlc).trans HCK.out
      have hg0 := (hB1.cell (p := ⟨w2.heap.size + 1, 0, none⟩) hlg).trans HG0.out
      have hg1 := (hB1.cell (p := ⟨w2.heap.size + 1, 1, none⟩) hlg).trans HG1.out
      have ck := keepAny_any k wr.heap.size w.heap.size (w.heap.size + 1 + 1) w2.heap.size (w.heap.size + 1) (w2.heap.size + 1) (rtA l days k) (rtB l c days k) (wr.alloc (.cells #[.int .i64 (k : Int)] 3)) (Boxed.new wr 3 (.int .i64 (k : Int))).cell hg0 hg1
        (fun W hb => right1_any k w.heap.size (w.heap.size + 1 + 1) w2.heap.size nb A cap l A' cap' days W HS.out HP.out HDB.out hlt (hR1.go hb))
        (fun W hb => right2_any k w.heap.size (w.heap.size + 1 + 1) w2.heap.size nb (w.heap.size + 1) A cap l A' cap' days c W HP.out HDB.out hlt (hR1.go hb) ((hb.cell (p := ⟨w.heap.size + 1, 0, none⟩) (by simp; omega)).trans hc1))
      have k1 : (k : Int) < l.length := by omega
      have k2 : ¬ l.length ≤ k := by omega
      have HB1 := Lib.hid hB1
      cases hv : rtA l days k && rtB l c days k
      · have HF : Hid (false = V) := Lib.hid (by rw [HV.out, rightA_no hlt hv])
        rw [hv] at ck
        have CK := Lib.hid ck
        clear ck hv hT hR1 hc1 hg0 hg1 hB1
        go_wp2_with fail
        refine CK.out.mono ?_
        rintro e w5 ⟨rfl, hb⟩
        have HB5 := Lib.hid (HBK.out.trans ((HB1.out.trans (hb.mono HB1.out.size)).mono HBK.out.size))
        clear hb
        go_wp2
        go_ret
        exact ⟨ret_bool HF.out, HB5.out⟩
      · have hT2 : Hid (∀ j, j < k + 1 → (rtA l days j && rtB l c days j) = true) := Lib.hid (fun j hj => if e : j = k then (by rw [e]; exact hv) else hT.out j (by omega))
        rw [hv] at ck
        have CK := Lib.hid ck
        clear ck hv hT hR1 hc1 hg0 hg1 hB1
        go_wp2_with fail
        refine CK.out.mono ?_
        rintro e w5 ⟨rfl, hb⟩
        have HB5 := Lib.hid (HB1.out.trans (hb.mono HB1.out.size))
        clear hb
        go_wp2
        go_roundw
        case rel => exact ⟨k + 1, by omega, by go_num, hT2, HB5⟩
        case measure => simp [intOf]; omega
    · have k1 : ¬ (k : Int) < l.length := by omega
      have HF : Hid (true = V) := Lib.hid (by rw [HV.out, rightA_yes fun j hj => hT.out j (by omega)])
      clear hT
      go_wp2
      go_ret
      exact ⟨ret_bool HF.out, HBK.out.trans (HB.out.mono HBK.out.size)⟩
end Go.Proofs.Ytgijekhlbkfanaa
