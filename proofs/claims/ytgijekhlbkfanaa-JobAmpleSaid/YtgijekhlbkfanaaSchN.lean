/- Plans: the listed schedule is right, and the days on which it goes on; the turn of the tasks by their latest days. No program is named. -/
import Derived.Test.YtgijekhlbkfanaaSchM
set_option linter.unusedSimpArgs false
set_option linter.unusedVariables false
namespace Go.Proofs.Ytgijekhlbkfanaa

/-! ### the turn -/
def lexL (late : List Int) (a b : Nat) : Prop := gI late a < gI late b ∨ (gI late a = gI late b ∧ a < b)
theorem lexL.irr {late : List Int} {a : Nat} : ¬ lexL late a a := by unfold lexL; omega
theorem lexL.tr {late : List Int} {a b c : Nat} (h : lexL late a b) (k : lexL late b c) : lexL late a c := by unfold lexL at *; omega
theorem sorted_one {late : List Int} : ∀ {xs ys : List Nat}, xs.Pairwise (lexL late) → ys.Pairwise (lexL late) → (∀ x, x ∈ xs ↔ x ∈ ys) → xs = ys
  | [], [], _, _, _ => rfl
  | [], y :: ys, _, _, h => by have := (h y).2 (List.mem_cons_self ..); cases this
  | x :: xs, [], _, _, h => by have := (h x).1 (List.mem_cons_self ..); cases this
  | x :: xs, y :: ys, hx, hy, h => by
    obtain ⟨hx1, hx2⟩ := List.pairwise_cons.1 hx
    obtain ⟨hy1, hy2⟩ := List.pairwise_cons.1 hy
    have hxy : x = y := by
      rcases List.mem_cons.1 ((h x).1 (List.mem_cons_self ..)) with e | h1
      · exact e
      · rcases List.mem_cons.1 ((h y).2 (List.mem_cons_self ..)) with e | h2
        · exact e.symm
        · exact absurd ((hy1 x h1).tr (hx1 y h2)) lexL.irr
    subst hxy
    congr 1
    refine sorted_one hx2 hy2 fun z => ⟨fun hz => ?_, fun hz => ?_⟩
    · rcases List.mem_cons.1 ((h z).1 (List.mem_cons_of_mem _ hz)) with e | h1
      · exact absurd (e ▸ hx1 z hz) lexL.irr
      · exact h1
    · rcases List.mem_cons.1 ((h z).2 (List.mem_cons_of_mem _ hz)) with e | h1
      · exact absurd (e ▸ hy1 z hz) lexL.irr
      · exact h1
/-- A new last one is put into its place. -/
def insV (late : List Int) : List Nat → Nat → List Nat
  | [], x => [x]
  | y :: r, x => if gI late x < gI late y then insV late r x ++ [y] else (y :: r).reverse ++ [x]
def isortV (late : List Int) (xs : List Nat) : List Nat := xs.foldl (fun acc x => insV late acc.reverse x) []
theorem insV_mem {late : List Int} : ∀ {r : List Nat} {x z : Nat}, z ∈ insV late r x ↔ z ∈ r ∨ z = x
  | [], x, z => by simp [insV]
  | y :: r, x, z => by
    rw [insV]
    split
    · rw [List.mem_append, insV_mem, List.mem_singleton, List.mem_cons]
      constructor
      · rintro ((h | h) | h)
        · exact .inl (.inr h)
        · exact .inr h
        · exact .inl (.inl h)
      · rintro ((h | h) | h)
        · exact .inr h
        · exact .inl (.inl h)
        · exact .inl (.inr h)
    · rw [List.mem_append, List.mem_reverse, List.mem_singleton]
theorem insV_len {late : List Int} : ∀ (r : List Nat) (x : Nat), (insV late r x).length = r.length + 1
  | [], x => rfl
  | y :: r, x => by
    rw [insV]
    split
    · rw [List.length_append, insV_len]; rfl
    · simp
theorem insV_sorted {late : List Int} : ∀ {r : List Nat} {x : Nat}, r.reverse.Pairwise (lexL late) → (∀ y ∈ r, y < x) → (insV late r x).Pairwise (lexL late)
  | [], x, _, _ => by simp [insV]
  | y :: r, x, h, hb => by
    rw [List.reverse_cons, List.pairwise_append] at h
    obtain ⟨h1, -, h3⟩ := h
    rw [insV]
    split
    · rename_i hl
      rw [List.pairwise_append]
      refine ⟨insV_sorted h1 fun z hz => hb z (List.mem_cons_of_mem _ hz), by simp, fun a ha b hb' => ?_⟩
      rw [List.mem_singleton.1 hb']
      rcases insV_mem.1 ha with h4 | h4
      · exact h3 a (by simpa using h4) y (by simp)
      · rw [h4]; exact .inl hl
    · rename_i hl
      rw [List.reverse_cons, List.pairwise_append]
      refine ⟨by rw [List.pairwise_append]; exact ⟨h1, by simp, h3⟩, by simp, fun a ha b hb' => ?_⟩
      rw [List.mem_singleton.1 hb']
      have hax : a < x := hb a (by simp at ha ⊢; exact ha.symm)
      have hyx := hb y (List.mem_cons_self ..)
      rcases List.mem_append.1 ha with h4 | h4
      · have := h3 a h4 y (by simp)
        unfold lexL at *; omega
      · rw [List.mem_singleton.1 h4]; unfold lexL; omega
theorem isort_key {late : List Int} : ∀ {xs acc : List Nat}, xs.Pairwise (· < ·) → acc.Pairwise (lexL late) → (∀ y ∈ acc, ∀ x ∈ xs, y < x) → (xs.foldl (fun acc x => insV late acc.reverse x) acc).Pairwise (lexL late) ∧ ∀ z, z ∈ xs.foldl (fun acc x => insV late acc.reverse x) acc ↔ z ∈ acc ∨ z ∈ xs
  | [], acc, _, h, _ => ⟨h, fun z => by simp⟩
  | x :: xs, acc, hx, h, hb => by
    obtain ⟨h1, h2⟩ := List.pairwise_cons.1 hx
    obtain ⟨h3, h4⟩ := isort_key (xs := xs) (acc := insV late acc.reverse x) h2 (insV_sorted (by rw [List.reverse_reverse]; exact h) fun y hy => hb y (by simpa using hy) x (List.mem_cons_self ..)) (fun y hy z hz => by
      rcases insV_mem.1 hy with h5 | h5
      · exact hb y (by simpa using h5) z (List.mem_cons_of_mem _ hz)
      · rw [h5]; exact h1 z hz)
    refine ⟨h3, fun z => ?_⟩
    rw [List.foldl_cons, h4 z, insV_mem, List.mem_reverse, List.mem_cons, or_assoc]
theorem isortV_len (late : List Int) (xs : List Nat) : (isortV late xs).length = xs.length := by
  have : ∀ (xs acc : List Nat), (xs.foldl (fun acc x => insV late acc.reverse x) acc).length = acc.length + xs.length := by
    intro xs
    induction xs with
    | nil => intro acc; rfl
    | cons x xs ih => intro acc; rw [List.foldl_cons, ih, insV_len, List.length_reverse, List.length_cons]; omega
  have := this xs []
  unfold isortV; rw [this]; simp
theorem isortV_is {late : List Int} {xs ys : List Nat} (hx : xs.Pairwise (· < ·)) (hy : ys.Pairwise (lexL late)) (h : ∀ z, z ∈ ys ↔ z ∈ xs) : isortV late xs = ys := by
  obtain ⟨h1, h2⟩ := isort_key (late := late) (xs := xs) (acc := []) hx List.Pairwise.nil (fun y hy => by cases hy)
  refine sorted_one h1 hy fun z => ?_
  show z ∈ xs.foldl _ [] ↔ _
  rw [h2 z, h z]; simp
/-- Day by day the tasks whose latest day it is. -/
def trnA (late : List Int) (n : Nat) (d : Nat) (j : Nat) : List Nat := (List.range j).filter fun i => decide (gI late i = (d : Int))
def trnK (late : List Int) (n : Nat) : Nat → List Nat
  | 0 => []
  | d + 1 => trnK late n d ++ trnA late n d n
theorem trnA_next (late : List Int) (n d j : Nat) : trnA late n d (j + 1) = if gI late j = (d : Int) then trnA late n d j ++ [j] else trnA late n d j := by
  unfold trnA; rw [List.range_succ, List.filter_append]
  by_cases h : gI late j = (d : Int)
  · rw [if_pos h]; simp [h]
  · rw [if_neg h]; simp [h]
theorem trnK_mem {late : List Int} {n : Nat} : ∀ {d z : Nat}, z ∈ trnK late n d ↔ z < n ∧ 0 ≤ gI late z ∧ gI late z < d
  | 0, z => ⟨fun h => (by cases h), fun h => (by omega)⟩
  | d + 1, z => by
    rw [trnK, List.mem_append, trnK_mem]
    unfold trnA
    rw [List.mem_filter, List.mem_range, decide_eq_true_eq]
    omega
theorem range_lt (n : Nat) : (List.range n).Pairwise (· < ·) := List.pairwise_lt_range
theorem trnK_sorted {late : List Int} {n : Nat} : ∀ d : Nat, (trnK late n d).Pairwise (lexL late)
  | 0 => List.Pairwise.nil
  | d + 1 => by
    rw [trnK, List.pairwise_append]
    refine ⟨trnK_sorted d, ?_, fun a ha b hb => ?_⟩
    · unfold trnA
      have h1 : ((List.range n).filter fun i => decide (gI late i = (d : Int))).Pairwise (· < ·) := (range_lt n).filter _
      refine List.Pairwise.imp_of_mem (fun {a b} ha hb hab => ?_) h1
      rw [List.mem_filter, decide_eq_true_eq] at ha hb
      exact .inr ⟨by omega, hab⟩
    · unfold trnA at hb
      rw [List.mem_filter, decide_eq_true_eq] at hb
      have := trnK_mem.1 ha
      exact .inl (by omega)
def trn (l : List Tk) : List Nat := trnK (latP l) l.length (endsV l (latP l) + 1).toNat
theorem lat_pos {l : List Tk} (h : okP l) {i : Nat} (hi : i < l.length) : 0 ≤ gI (latP l) i := Int.le_trans (ear_pos h i) (ear_lat h i hi)
theorem trn_is {l : List Tk} (h : okP l) : isTr l (trn l) := by
  have hs := trnK_sorted (late := latP l) (n := l.length) (endsV l (latP l) + 1).toNat
  refine ⟨?_, fun i => ?_⟩
  · exact hs.imp fun {a b} hab e => by subst e; exact lexL.irr hab
  · unfold trn; rw [trnK_mem]
    constructor
    · exact fun hh => hh.1
    · intro hi
      have h1 := (ends_spec l (latP l)).2.1 i hi
      have h2 := (dy_bd h hi).1
      have h3 := lat_pos h hi
      have h4 := (ends_spec l (latP l)).1
      exact ⟨hi, h3, by omega⟩
theorem trn_sorted (l : List Tk) : (trn l).Pairwise (lexL (latP l)) := trnK_sorted _
/-- The program's free tasks, sorted, are the turn's. -/
theorem free_sorted {l : List Tk} (h : okP l) (p : Nat → Bool) : isortV (latP l) ((List.range l.length).filter p) = (trn l).filter p := by
  refine isortV_is ((range_lt _).filter _) ((trn_sorted l).filter _) fun z => ?_
  rw [List.mem_filter, List.mem_filter, (trn_is h).mem, List.mem_range]
def stP (l : List Tk) (d : Int) (q : Int × Sc) (i : Nat) : Int × Sc := if mnA l i ≤ q.1 then (q.1 - mnA l i, q.2.1.set i d, q.2.2 ++ [i]) else q
theorem dayP_fold {l : List Tk} {most d : Int} {s : Sc} (hP : okP l) (hs : s.1.length = l.length) : ∀ {post pre : List Nat} {t : Sc}, (pre ++ post).Nodup → (∀ i ∈ post, i < l.length) → Day l most d s pre t →
    (post.filter (rdD l s.1 s.2 d)).foldl (stP l d) (most - runL l t.1 t.2 d, t) = (most - runL l (post.foldl (stR l most d) t).1 (post.foldl (stR l most d) t).2 d, post.foldl (stR l most d) t)
  | [], pre, t, _, _, h => rfl
  | i :: post, pre, t, hn, hl, h => by
    have hp : i ∉ pre := fun hh => by
      rw [List.nodup_append] at hn
      exact hn.2.2 i hh i (List.mem_cons_self ..) rfl
    have hi := hl i (List.mem_cons_self ..)
    have h1 := h.step hP hs hi hp
    have h2 := dayP_fold hP hs (post := post) (pre := pre ++ [i]) (by simpa using hn) (fun j hj => hl j (List.mem_cons_of_mem _ hj)) h1
    rw [List.foldl_cons, ← h2, List.filter_cons]
    have hr := h.rd hP hi hp
    by_cases hq : rdD l s.1 s.2 d i = true
    · rw [if_pos hq, List.foldl_cons]
      rw [hq] at hr
      congr 1
      have hni : i ∉ t.2 := fun hh => (rdD_iff.1 hr).1 hh
      unfold stP stR
      rw [hr, Bool.true_and]
      by_cases hm : mnA l i + runL l t.1 t.2 d ≤ most
      · rw [if_pos (show mnA l i ≤ most - runL l t.1 t.2 d by omega), if_pos (by simpa using hm)]
        show (_, _) = (most - runL l (t.1.set i d) (t.2 ++ [i]) d, (t.1.set i d, t.2 ++ [i]))
        rw [runL_add hP (by rw [h.len]; exact hs) hi hni]
        congr 1
        omega
      · rw [if_neg (show ¬ mnA l i ≤ most - runL l t.1 t.2 d by omega), if_neg (by simpa using hm)]
    · have hq' : rdD l s.1 s.2 d i = false := by simpa using hq
      rw [if_neg hq]
      rw [hq'] at hr
      have : stR l most d t i = t := by unfold stR; rw [hr]; rfl
      rw [this]
theorem dayP_eq {l : List Tk} {most : Int} {d : Nat} {s : Sc} (hP : okP l) (h : Inv l most d s) (h2 : Inv2 l most d s) (hm : 0 ≤ most) :
    ((isortV (latP l) ((List.range l.length).filter (rdD l s.1 s.2 d))).foldl (stP l d) (most - runL l s.1 s.2 d, s)).2 = dayR l most (trn l) d s := by
  rw [free_sorted hP]
  have hT := trn_is hP
  rw [dayP_fold hP h.len (pre := []) (by simpa using hT.nd) (fun i hi => (hT.mem i).1 hi) (Day.begin hP h h2 hm)]
  rfl

/-! ### the whole listing -/
def totD (l : List Tk) : Int := sN (dyA l) l.length
structure Run (l : List Tk) (most : Int) (d : Nat) : Prop where
  inv : Inv l most d (schK l most (trn l) d)
  inv2 : Inv2 l most d (schK l most (trn l) d)
theorem Run.zeroth (l : List Tk) (most : Int) : Run l most 0 := ⟨Inv.zeroth l most, Inv2.zeroth l most⟩
theorem Run.next {l : List Tk} {most : Int} {d : Nat} (hP : okP l) (hm : ∀ i, i < l.length → mnA l i ≤ most) (h : Run l most d) (hs : (schK l most (trn l) d).2.length < l.length) : Run l most (d + 1) := by
  have hm0 : 0 ≤ most := by have := hm 0 hP.pos; have := (mnA_bd hP hP.pos).1; omega
  have hT := trn_is hP
  exact ⟨h.inv.next hP (Day.all hP hT h.inv h.inv2 hm0), h.inv2.next hP hT h.inv hm hs⟩
theorem sN_mono {f : Nat → Int} {m n : Nat} (h : m ≤ n) (hf : ∀ k, 0 ≤ f k) : sN f m ≤ sN f n := by
  induction n with
  | zero => rw [show m = 0 by omega]; exact Int.le_refl _
  | succ n ih =>
    by_cases e : m = n + 1
    · rw [e]; exact Int.le_refl _
    · have := ih (by omega)
      have := hf n
      show sN f m ≤ sN f n + f n
      omega
/-- Days on which something goes on are no more than all days of work. -/
theorem busy_days {l : List Tk} (hP : okP l) {out : List Int} (h0 : ∀ j, j < l.length → 0 ≤ gI out j) {D : Nat} (h : ∀ e : Nat, e < D → ∃ j, j < l.length ∧ gI out j ≤ e ∧ (e : Int) < gI out j + dyA l j) : (D : Int) ≤ totD l := by
  obtain ⟨M, hM1, hM2⟩ : ∃ M : Nat, D ≤ M ∧ ∀ j, j < l.length → gI out j + dyA l j ≤ M := by
    refine ⟨D + (endsV l out).toNat, by omega, fun j hj => ?_⟩
    have := (ends_spec l out).2.1 j hj
    have := (ends_spec l out).1
    omega
  have h1 : (D : Int) ≤ sN (fun e => sN (fun j => if gI out j ≤ (e : Int) ∧ (e : Int) < gI out j + dyA l j then 1 else 0) l.length) D := by
    have : sN (fun _ => (1 : Int)) D = D := by
      induction D with
      | zero => rfl
      | succ D ih =>
        show sN _ D + 1 = _
        have : ∀ n : Nat, sN (fun _ => (1 : Int)) n = n := fun n => by
          induction n with
          | zero => rfl
          | succ n ih => show sN _ n + 1 = _; rw [ih]; omega
        rw [this]; omega
    rw [← this]
    rw [show sN (fun _ => (1 : Int)) D = (D : Int) from this]
    rw [← this]
    refine sN_le fun e he => ?_
    obtain ⟨j, hj, hb⟩ := h e he
    have := sN_one (fun j => if gI out j ≤ (e : Int) ∧ (e : Int) < gI out j + dyA l j then (1 : Int) else 0) hj (fun k _ => by (try dsimp only); split <;> omega)
    (try dsimp only at this)
    rw [if_pos hb] at this
    exact this
  refine Int.le_trans h1 (Int.le_trans (sN_mono hM1 fun e => sN_nonneg fun k _ => by (try dsimp only); split <;> omega) ?_)
  rw [← sN_swap]
  refine sN_le fun j hj => ?_
  have := sN_stretch (c := 1) (h0 j hj) (show 0 ≤ dyA l j by have := (dy_bd hP hj).1; omega) M (hM2 j hj)
  rw [Int.one_mul] at this
  exact Int.le_of_eq this
theorem Run.bd {l : List Tk} {most : Int} {d : Nat} (hP : okP l) (h : Run l most d) : (d : Int) ≤ totD l := by
  refine busy_days hP (out := (schK l most (trn l) d).1) (fun j hj => ?_) fun e he => ?_
  · by_cases hB : j ∈ (schK l most (trn l) d).2
    · exact (h.inv.early j hB).1
    · rw [h.inv.zero j hB]; exact Int.le_refl _
  · obtain ⟨j, h1, h2, h3⟩ := h.inv2.busy e he
    exact ⟨j, h.inv.lt j h1, h2, h3⟩
theorem Inv.full {l : List Tk} {most : Int} {d : Nat} {s : Sc} (h : Inv l most d s) (hf : ¬ s.2.length < l.length) {i : Nat} (hi : i < l.length) : i ∈ s.2 := by
  apply Classical.byContradiction
  intro hn
  have : (i :: s.2).length ≤ l.length := nodup_len (List.nodup_cons.2 ⟨hn, h.nd⟩) fun x hx => by
    rcases List.mem_cons.1 hx with rfl | hx
    · exact hi
    · exact h.lt x hx
  rw [List.length_cons] at this
  omega
theorem Inv.len_le {l : List Tk} {most : Int} {d : Nat} {s : Sc} (h : Inv l most d s) : s.2.length ≤ l.length := nodup_len h.nd h.lt
theorem full_stay {l : List Tk} {most d : Int} {s : Sc} (hf : ∀ i, i < l.length → i ∈ s.2) : ∀ {tr : List Nat}, (∀ i ∈ tr, i < l.length) → tr.foldl (stR l most d) s = s
  | [], _ => rfl
  | i :: tr, h => by
    have : stR l most d s i = s := by
      unfold stR rdD
      rw [contains_iff.2 (hf i (h i (List.mem_cons_self ..)))]
      rfl
    rw [List.foldl_cons, this]
    exact full_stay hf fun j hj => h j (List.mem_cons_of_mem _ hj)
theorem schK_stay {l : List Tk} {most : Int} {d : Nat} (hP : okP l) (hf : ∀ i, i < l.length → i ∈ (schK l most (trn l) d).2) : ∀ m, schK l most (trn l) (d + m) = schK l most (trn l) d
  | 0 => rfl
  | m + 1 => by
    show dayR l most (trn l) (d + m : Nat) (schK l most (trn l) (d + m)) = _
    rw [schK_stay hP hf m]
    exact full_stay hf fun i hi => ((trn_is hP).mem i).1 hi
/-- The schedule that is listed. -/
def LST (l : List Tk) (most : Int) : List Int := (schK l most (trn l) (totD l).toNat).1
theorem sch_done {l : List Tk} {most : Int} {d : Nat} (hP : okP l) (h : Run l most d) (hf : ¬ (schK l most (trn l) d).2.length < l.length) : (schK l most (trn l) d).1 = LST l most := by
  have h1 := h.bd hP
  have := schK_stay hP (fun i hi => h.inv.full hf hi) ((totD l).toNat - d)
  unfold LST
  rw [← this]
  congr 2
  omega
/-- There is a day on which all have begun. -/
theorem sch_ends {l : List Tk} {most : Int} (hP : okP l) (hm : ∀ i, i < l.length → mnA l i ≤ most) : ∃ D, Run l most D ∧ ¬ (schK l most (trn l) D).2.length < l.length := by
  apply Classical.byContradiction
  intro hno
  have key : ∀ d, Run l most d := by
    intro d
    induction d with
    | zero => exact Run.zeroth l most
    | succ d ih => exact ih.next hP hm (Classical.byContradiction fun hh => hno ⟨d, ih, hh⟩)
  have := (key ((totD l).toNat + 1)).bd hP
  omega
/-- Men at work on a day. -/
def menV (l : List Tk) (days : List Int) (e : Int) : Int := sN (fun k => if gI days k ≤ e ∧ e < gI days k + dyA l k then mnA l k else 0) l.length
structure Lst (l : List Tk) (most : Int) (out : List Int) : Prop where
  len : out.length = l.length
  pos : ∀ i, i < l.length → 0 ≤ gI out i ∧ gI out i ≤ totD l
  aft : ∀ i, i < l.length → ∀ a ∈ afs l i, gI out a + dyA l a ≤ gI out i
  crew : ∀ e : Int, menV l out e ≤ most
  busy : ∀ e : Int, 0 ≤ e → e < endsV l out → 1 ≤ menV l out e
theorem menV_one {l : List Tk} (hP : okP l) {out : List Int} {e : Int} {j : Nat} (hj : j < l.length) (h : gI out j ≤ e ∧ e < gI out j + dyA l j) : 1 ≤ menV l out e := by
  have h1 := (mnA_bd hP hj).1
  have := sN_one (fun k => if gI out k ≤ e ∧ e < gI out k + dyA l k then mnA l k else 0) hj (fun k hk => by have := (mnA_bd hP hk).1; (try dsimp only); split <;> omega)
  (try dsimp only at this)
  rw [if_pos h] at this
  unfold menV
  omega
theorem LST_is {l : List Tk} {most : Int} (hP : okP l) (hm : ∀ i, i < l.length → mnA l i ≤ most) : Lst l most (LST l most) := by
  obtain ⟨D, hR, hf⟩ := sch_ends hP hm
  rw [← sch_done hP hR hf]
  have hfull := fun i (hi : i < l.length) => hR.inv.full hf hi
  have hbd := hR.bd hP
  have hmen : ∀ e : Int, menB l (schK l most (trn l) D).1 (schK l most (trn l) D).2 e = menV l (schK l most (trn l) D).1 e := fun e => sN_congr fun k hk => by
    unfold mnF
    rw [contains_iff.2 (hfull k hk)]
    by_cases h : gI (schK l most (trn l) D).1 k ≤ e ∧ e < gI (schK l most (trn l) D).1 k + dyA l k
    · rw [if_pos h, if_pos (by simpa using h)]
    · rw [if_neg h, if_neg (by simpa using h)]
  have hm0 : 0 ≤ most := by have := hm 0 hP.pos; have := (mnA_bd hP hP.pos).1; omega
  have hD0 : 0 < D := by
    rcases Nat.eq_zero_or_pos D with rfl | h
    · have := hfull 0 hP.pos
      cases this
    · exact h
  refine ⟨hR.inv.len, fun i hi => ?_, fun i hi a ha => (hR.inv.aft i (hfull i hi) a ha).2, fun e => ?_, fun e he hend => ?_⟩
  · have := hR.inv.early i (hfull i hi); omega
  · by_cases h0 : e < 0
    · refine Int.le_trans (Int.le_of_eq ?_) hm0
      exact sN_zero fun k hk => by
        have := (hR.inv.early k (hfull k hk)).1
        (try dsimp only)
        rw [if_neg (by omega)]
    · by_cases h1 : e < D
      · have := hR.inv2.crew e.toNat (by omega)
        rw [show ((e.toNat : Nat) : Int) = e by omega, hmen] at this
        exact this
      · have := hR.inv2.crew (D - 1) (by omega)
        rw [hmen] at this
        refine Int.le_trans (sN_le fun k hk => ?_) this
        have h3 := (hR.inv.early k (hfull k hk)).2
        have h4 := (mnA_bd hP hk).1
        (try dsimp only)
        by_cases h5 : gI (schK l most (trn l) D).1 k ≤ e ∧ e < gI (schK l most (trn l) D).1 k + dyA l k
        · rw [if_pos h5, if_pos (by omega)]; exact Int.le_refl _
        · rw [if_neg h5]; split <;> omega
  · by_cases h1 : e < D
    · obtain ⟨j, b1, b2, b3⟩ := hR.inv2.busy e.toNat (by omega)
      have h2 : ((e.toNat : Nat) : Int) = e := by omega
      rw [h2] at b2 b3
      exact menV_one hP (hR.inv.lt j b1) ⟨b2, b3⟩
    · rcases (ends_spec l (schK l most (trn l) D).1).2.2 with h2 | ⟨i, hi, h2⟩
      · omega
      · have h3 := (hR.inv.early i (hfull i hi)).2
        exact menV_one hP hi (by omega)
end Go.Proofs.Ytgijekhlbkfanaa
