/- Plans: the length, and the latest days by both roads. No program is named. -/
import Derived.Test.YtgijekhlbkfanaaJobE
set_option linter.unusedSimpArgs false
set_option linter.unusedVariables false
namespace Go.Proofs.Ytgijekhlbkfanaa

/-- The day after the last one. -/
def endsV (l : List Tk) (days : List Int) : Int := mxs l days 0 (List.range l.length)
theorem mxs_next (l : List Tk) (days : List Int) (k : Nat) : mxs l days 0 (List.range (k + 1)) = imax (mxs l days 0 (List.range k)) (gI days k + dyA l k) := by
  unfold mxs; rw [List.range_succ, List.foldl_append]; rfl
def lenV (l : List Tk) : Int := endsV l (ear l)
theorem ends_spec (l : List Tk) (days : List Int) : 0 ≤ endsV l days ∧ (∀ i, i < l.length → gI days i + dyA l i ≤ endsV l days) ∧ (endsV l days = 0 ∨ ∃ i, i < l.length ∧ endsV l days = gI days i + dyA l i) := by
  obtain ⟨h1, h2, h3⟩ := mxs_spec (l := l) (o := days) (as := List.range l.length) (m := 0)
  refine ⟨h1, fun i hi => h2 i (List.mem_range.2 hi), ?_⟩
  rcases h3 with h3 | ⟨i, hi, h3⟩
  · exact .inl h3
  · exact .inr ⟨i, List.mem_range.1 hi, h3⟩
theorem ear_bd {l : List Tk} (h : okP l) : bdE 200000 (ear l) := by
  have h1 := earK_bd h (ord l).length
  rw [earK_end (Nat.le_refl _)] at h1
  have := h.all; have := h.len
  exact bdE_mono h1 (by omega)
theorem mxs_bd {l : List Tk} (h : okP l) {days : List Int} {m : Int} (hb : bdE m days) : ∀ k, k ≤ l.length → 0 ≤ mxs l days 0 (List.range k) ∧ mxs l days 0 (List.range k) ≤ m + 1000
  | 0, _ => by
    have := hb 0
    simp [mxs]; omega
  | k + 1, hk => by
    have h1 := mxs_bd h hb k (by omega)
    have h2 := hb k
    have h3 := dy_bd h (i := k) (by omega)
    rw [mxs_next]; unfold imax; split <;> omega
theorem lenV_bd {l : List Tk} (h : okP l) : 0 ≤ lenV l ∧ lenV l ≤ 201000 := mxs_bd h (ear_bd h) _ (Nat.le_refl _)

/-! ### the program's latest days -/
def latS (l : List Tk) (i : Nat) (out : List Int) (a : Nat) : List Int := out.set a (imin (gI out a) (gI out i - dyA l a))
def latJ (l : List Tk) (i : Nat) (out : List Int) (j : Nat) : List Int := ((afs l i).take j).foldl (latS l i) out
def latI (l : List Tk) (out : List Int) (i : Nat) : List Int := (afs l i).foldl (latS l i) out
def lat0 (l : List Tk) : List Int := (List.range l.length).map fun i => lenV l - dyA l i
def latK (l : List Tk) (k : Nat) : List Int := ((ord l).reverse.take k).foldl (latI l) (lat0 l)
def latP (l : List Tk) : List Int := (ord l).reverse.foldl (latI l) (lat0 l)
theorem latS_len (l : List Tk) (i : Nat) (out : List Int) (a : Nat) : (latS l i out a).length = out.length := by unfold latS; rw [List.length_set]
theorem latJ_len (l : List Tk) (i : Nat) (out : List Int) (j : Nat) : (latJ l i out j).length = out.length := foldl_len (latS_len l i) _ _
theorem latI_len (l : List Tk) (out : List Int) (i : Nat) : (latI l out i).length = out.length := foldl_len (latS_len l i) _ _
theorem lat0_len (l : List Tk) : (lat0 l).length = l.length := by unfold lat0; rw [List.length_map, List.length_range]
theorem latK_len (l : List Tk) (k : Nat) : (latK l k).length = l.length := by unfold latK; rw [foldl_len (latI_len l), lat0_len]
theorem latP_len (l : List Tk) : (latP l).length = l.length := by unfold latP; rw [foldl_len (latI_len l), lat0_len]
theorem latJ_next {l : List Tk} {i : Nat} {out : List Int} {j : Nat} (h : j < (afs l i).length) : latJ l i out (j + 1) = latS l i (latJ l i out j) (afs l i)[j] := by
  unfold latJ; rw [List.take_succ_eq_append_getElem h, List.foldl_append]; rfl
theorem latJ_end {l : List Tk} {i : Nat} {out : List Int} {j : Nat} (h : (afs l i).length ≤ j) : latJ l i out j = latI l out i := by
  unfold latJ latI; rw [List.take_of_length_le h]
theorem latK_next {l : List Tk} {k : Nat} (h : k < (ord l).reverse.length) : latK l (k + 1) = latI l (latK l k) (ord l).reverse[k] := by
  unfold latK; rw [List.take_succ_eq_append_getElem h, List.foldl_append]; rfl
theorem latK_end {l : List Tk} {k : Nat} (h : (ord l).length ≤ k) : latK l k = latP l := by
  unfold latK latP; rw [List.take_of_length_le (by rw [List.length_reverse]; exact h)]
theorem latI_get {l : List Tk} {i : Nat} {b : Nat} : ∀ {as : List Nat} {out : List Int}, i ∉ as → (∀ a ∈ as, a < out.length) → gI (as.foldl (latS l i) out) b = if b ∈ as then imin (gI out b) (gI out i - dyA l b) else gI out b
  | [], out, _, _ => by simp
  | a :: as, out, h, hl => by
    have ha : a ≠ i := fun e => h (e ▸ List.mem_cons_self ..)
    rw [List.foldl_cons, latI_get (fun hh => h (List.mem_cons_of_mem _ hh)) fun c hc => by rw [latS_len]; exact hl c (List.mem_cons_of_mem _ hc)]
    unfold latS
    rw [gI_set_other ha]
    have hal := hl a (List.mem_cons_self ..)
    by_cases e : a = b
    · subst e
      rw [gI_set_same hal, if_pos (List.mem_cons_self ..)]
      split
      · unfold imin; repeat' split
        all_goals omega
      · rfl
    · rw [gI_set_other e]
      by_cases hb : b ∈ as
      · rw [if_pos hb, if_pos (List.mem_cons_of_mem _ hb)]
      · rw [if_neg hb, if_neg (by
          intro hh
          rcases List.mem_cons.1 hh with rfl | hh
          · exact e rfl
          · exact hb hh)]
/-- Days that are the greatest ones. -/
structure isLat (l : List Tk) (out : List Int) : Prop where
  len : out.length = l.length
  le : ∀ i, i < l.length → gI out i + dyA l i ≤ lenV l
  lt : ∀ i, i < l.length → ∀ j, j < l.length → i ∈ afs l j → gI out i + dyA l i ≤ gI out j
  some : ∀ i, i < l.length → gI out i + dyA l i = lenV l ∨ ∃ j, j < l.length ∧ i ∈ afs l j ∧ gI out i + dyA l i = gI out j
theorem latP_is {l : List Tk} (h : okP l) : isLat l (latP l) := by
  have key : ∀ (post pre : List Nat), ord l = pre ++ post → (post.reverse.foldl (latI l) (lat0 l)).length = l.length ∧ ∀ a, a < l.length →
      gI (post.reverse.foldl (latI l) (lat0 l)) a + dyA l a ≤ lenV l ∧ (∀ j ∈ post, a ∈ afs l j → gI (post.reverse.foldl (latI l) (lat0 l)) a + dyA l a ≤ gI (post.reverse.foldl (latI l) (lat0 l)) j) ∧
      (gI (post.reverse.foldl (latI l) (lat0 l)) a + dyA l a = lenV l ∨ ∃ j ∈ post, a ∈ afs l j ∧ gI (post.reverse.foldl (latI l) (lat0 l)) a + dyA l a = gI (post.reverse.foldl (latI l) (lat0 l)) j) := by
    intro post
    induction post with
    | nil =>
      intro pre _
      refine ⟨lat0_len l, fun a ha => ?_⟩
      have : gI (lat0 l) a = lenV l - dyA l a := gI_map ha
      show gI (lat0 l) a + dyA l a ≤ _ ∧ _ ∧ (gI (lat0 l) a + dyA l a = _ ∨ _)
      rw [this]
      exact ⟨by omega, fun j hj => (by cases hj), .inl (by omega)⟩
    | cons i post ih =>
      intro pre e
      obtain ⟨hl, hk⟩ := ih (pre ++ [i]) (by rw [e]; simp)
      have ht := topo_ord l pre i post e
      have hil : i < l.length := ord_lt (by rw [e]; simp)
      have hni := afs_self h hil
      have hT : topo l (pre ++ i :: post) := e ▸ topo_ord l
      have hnd : (pre ++ i :: post).Nodup := e ▸ ordK_nodup l _
      have hpost : ∀ j ∈ post, j ∉ pre := fun j hj hp => by
        have := (List.nodup_append.1 hnd).2.2 j hp j (List.mem_cons_of_mem _ hj)
        exact this rfl
      have hip : i ∉ post := (List.nodup_cons.1 (List.nodup_append.1 hnd).2.1).1
      rw [List.reverse_cons, List.foldl_append, List.foldl_cons, List.foldl_nil]
      generalize post.reverse.foldl (latI l) (lat0 l) = O at *
      have hG : ∀ b, gI (latI l O i) b = if b ∈ afs l i then imin (gI O b) (gI O i - dyA l b) else gI O b := fun b => latI_get hni fun a ha => by rw [hl]; exact afs_lt h hil ha
      have hGi : gI (latI l O i) i = gI O i := by rw [hG, if_neg hni]
      have hGp : ∀ j ∈ post, gI (latI l O i) j = gI O j := fun j hj => by
        rw [hG, if_neg fun hh => hpost j hj (ht.2 j hh)]
      refine ⟨by rw [latI_len]; exact hl, fun a ha => ?_⟩
      obtain ⟨k1, k2, k3⟩ := hk a ha
      by_cases hai : a ∈ afs l i
      · have hGa : gI (latI l O i) a = imin (gI O a) (gI O i - dyA l a) := by rw [hG, if_pos hai]
        have hm := imin_le (gI O a) (gI O i - dyA l a)
        refine ⟨by rw [hGa]; omega, fun j hj haj => ?_, ?_⟩
        · rcases List.mem_cons.1 hj with rfl | hj
          · rw [hGi, hGa]; omega
          · rw [hGp j hj, hGa]
            have := k2 j hj haj
            omega
        · rw [hGa]
          by_cases hc : gI O i - dyA l a < gI O a
          · exact .inr ⟨i, List.mem_cons_self .., hai, by rw [hGi]; unfold imin; rw [if_pos hc]; omega⟩
          · unfold imin; rw [if_neg hc]
            rcases k3 with k3 | ⟨j, hj, hja, k3⟩
            · exact .inl k3
            · exact .inr ⟨j, List.mem_cons_of_mem _ hj, hja, by rw [hGp j hj]; exact k3⟩
      · have hGa : gI (latI l O i) a = gI O a := by rw [hG, if_neg hai]
        rw [hGa]
        refine ⟨k1, fun j hj haj => ?_, ?_⟩
        · rcases List.mem_cons.1 hj with rfl | hj
          · exact absurd haj hai
          · rw [hGp j hj]; exact k2 j hj haj
        · rcases k3 with k3 | ⟨j, hj, hja, k3⟩
          · exact .inl k3
          · exact .inr ⟨j, List.mem_cons_of_mem _ hj, hja, by rw [hGp j hj]; exact k3⟩
  obtain ⟨hl, hk⟩ := key (ord l) [] (by simp)
  refine ⟨hl, fun i hi => (hk i hi).1, fun i hi j hj hij => (hk i hi).2.1 j (ord_all h hj) hij, fun i hi => ?_⟩
  rcases (hk i hi).2.2 with h1 | ⟨j, hj, h1⟩
  · exact .inl h1
  · exact .inr ⟨j, ord_lt hj, h1⟩
/-- Bounds on both sides. -/
def bdL (m : Int) (out : List Int) : Prop := ∀ i, -m ≤ gI out i ∧ gI out i ≤ m
theorem bdL_mono {m m' : Int} {out : List Int} (h : bdL m out) (hm : m ≤ m') : bdL m' out := fun i => ⟨by have := (h i).1; omega, Int.le_trans (h i).2 hm⟩
theorem bdL_set {m : Int} {out : List Int} (h : bdL m out) {i : Nat} {v : Int} (h0 : -m ≤ v) (h1 : v ≤ m) : bdL m (out.set i v) := fun j => by
  by_cases e : i = j
  · subst e
    by_cases hi : i < out.length
    · rw [gI_set_same hi]; exact ⟨h0, h1⟩
    · have := h i
      unfold gI at this ⊢
      rw [List.getElem?_eq_none (by rw [List.length_set]; omega)]
      rw [List.getElem?_eq_none (by omega)] at this
      exact this
  · rw [gI_set_other e]; exact h j
theorem latS_bd {l : List Tk} (h : okP l) {m : Int} {out : List Int} (hb : bdL m out) {i a : Nat} (ha : a < l.length) : bdL (m + 1000) (latS l i out a) := by
  have h1 := dy_bd h ha
  have h2 := hb i
  have h3 := hb a
  refine bdL_set (bdL_mono hb (by omega)) ?_ ?_ <;> (unfold imin; split <;> omega)
theorem latJ_bd {l : List Tk} (h : okP l) {m : Int} {out : List Int} (hb : bdL m out) {i : Nat} (hi : i < l.length) : ∀ j : Nat, bdL (m + 1000 * j) (latJ l i out j)
  | 0 => by show bdL _ out; simpa using hb
  | j + 1 => by
    have h1 := latJ_bd h hb hi j
    by_cases hj : j < (afs l i).length
    · rw [latJ_next hj]
      have := latS_bd h h1 (i := i) (afs_lt h hi (List.getElem_mem hj))
      exact bdL_mono this (by push_cast; omega)
    · rw [latJ_end (by omega)]
      rw [latJ_end (by omega)] at h1
      exact bdL_mono h1 (by push_cast; omega)
theorem lat0_bd {l : List Tk} (h : okP l) : bdL 202000 (lat0 l) := fun i => by
  have h1 := lenV_bd h
  by_cases hi : i < l.length
  · have h2 := dy_bd h hi
    have : gI (lat0 l) i = lenV l - dyA l i := gI_map hi
    rw [this]; omega
  · have : gI (lat0 l) i = 0 := by unfold gI; rw [List.getElem?_eq_none (by rw [lat0_len]; omega)]; rfl
    rw [this]; omega
theorem latK_bd {l : List Tk} (h : okP l) : ∀ k : Nat, bdL (202000 + 10000 * k) (latK l k)
  | 0 => by show bdL _ (lat0 l); simpa using lat0_bd h
  | k + 1 => by
    have h1 := latK_bd h k
    by_cases hk : k < (ord l).reverse.length
    · have hi := ord_lt (l := l) (i := (ord l).reverse[k]) (List.mem_reverse.1 (List.getElem_mem hk))
      rw [latK_next hk]
      have := latJ_bd h h1 hi (afs l (ord l).reverse[k]).length
      rw [latJ_end (Nat.le_refl _)] at this
      have h2 := h.few _ hi
      rw [← afs_len] at h2
      exact bdL_mono this (by push_cast; omega)
    · rw [List.length_reverse] at hk
      rw [latK_end (by omega)]
      rw [latK_end (by omega)] at h1
      exact bdL_mono h1 (by push_cast; omega)
theorem latKJ_bd {l : List Tk} (h : okP l) {k j : Nat} (hk : k < (ord l).reverse.length) (hj : j ≤ 10) : bdL 500000 (latJ l (ord l).reverse[k] (latK l k) j) := by
  have h1 := latJ_bd h (latK_bd h k) (ord_lt (List.mem_reverse.1 (List.getElem_mem hk))) j
  have := h.all; have := h.len
  rw [List.length_reverse] at hk
  exact bdL_mono h1 (by omega)

/-! ### the reference's latest days -/
def endR (l : List Tk) (out : List Int) (i : Nat) (j : Nat) : Int := (List.range j).foldl (fun m j => if (afs l j).contains i && decide (gI out j < m) then gI out j else m) (lenV l)
theorem endR_next (l : List Tk) (out : List Int) (i j : Nat) : endR l out i (j + 1) = if (afs l j).contains i && decide (gI out j < endR l out i j) then gI out j else endR l out i j := by
  unfold endR; rw [List.range_succ, List.foldl_append]; rfl
def latRI (l : List Tk) (out : List Int) (i : Nat) : List Int := out.set i (endR l out i l.length - dyA l i)
def latRK (l : List Tk) (k : Nat) : List Int := ((ord l).reverse.take k).foldl (latRI l) (List.replicate l.length 0)
def latR (l : List Tk) : List Int := (ord l).reverse.foldl (latRI l) (List.replicate l.length 0)
theorem latRI_len (l : List Tk) (out : List Int) (i : Nat) : (latRI l out i).length = out.length := by unfold latRI; rw [List.length_set]
theorem latRK_len (l : List Tk) (k : Nat) : (latRK l k).length = l.length := by unfold latRK; rw [foldl_len (latRI_len l), List.length_replicate]
theorem latR_len (l : List Tk) : (latR l).length = l.length := by unfold latR; rw [foldl_len (latRI_len l), List.length_replicate]
theorem latRK_next {l : List Tk} {k : Nat} (h : k < (ord l).reverse.length) : latRK l (k + 1) = latRI l (latRK l k) (ord l).reverse[k] := by
  unfold latRK; rw [List.take_succ_eq_append_getElem h, List.foldl_append]; rfl
theorem latRK_end {l : List Tk} {k : Nat} (h : (ord l).length ≤ k) : latRK l k = latR l := by
  unfold latRK latR; rw [List.take_of_length_le (by rw [List.length_reverse]; exact h)]
theorem endR_spec (l : List Tk) (out : List Int) (i : Nat) : ∀ j, endR l out i j ≤ lenV l ∧ (∀ q, q < j → i ∈ afs l q → endR l out i j ≤ gI out q) ∧ (endR l out i j = lenV l ∨ ∃ q, q < j ∧ i ∈ afs l q ∧ endR l out i j = gI out q)
  | 0 => ⟨Int.le_refl _, fun q hq => by omega, .inl rfl⟩
  | j + 1 => by
    obtain ⟨h1, h2, h3⟩ := endR_spec l out i j
    rw [endR_next]
    split
    · rename_i hc
      simp only [Bool.and_eq_true, List.contains_iff_mem, decide_eq_true_eq] at hc
      refine ⟨by omega, fun q hq hi => ?_, .inr ⟨j, by omega, hc.1, rfl⟩⟩
      by_cases e : q = j
      · subst e; exact Int.le_refl _
      · have := h2 q (by omega) hi; omega
    · rename_i hc
      simp only [Bool.and_eq_true, List.contains_iff_mem, decide_eq_true_eq, not_and] at hc
      refine ⟨h1, fun q hq hi => ?_, ?_⟩
      · by_cases e : q = j
        · subst e; have := hc hi; omega
        · exact h2 q (by omega) hi
      · rcases h3 with h3 | ⟨q, hq, h3⟩
        · exact .inl h3
        · exact .inr ⟨q, by omega, h3⟩
theorem latR_is {l : List Tk} (h : okP l) : isLat l (latR l) := by
  have key : ∀ (post pre : List Nat), ord l = pre ++ post → (post.reverse.foldl (latRI l) (List.replicate l.length 0)).length = l.length ∧ ∀ a ∈ post,
      gI (post.reverse.foldl (latRI l) (List.replicate l.length 0)) a + dyA l a ≤ lenV l ∧ (∀ j, j < l.length → a ∈ afs l j → gI (post.reverse.foldl (latRI l) (List.replicate l.length 0)) a + dyA l a ≤ gI (post.reverse.foldl (latRI l) (List.replicate l.length 0)) j) ∧
      (gI (post.reverse.foldl (latRI l) (List.replicate l.length 0)) a + dyA l a = lenV l ∨ ∃ j, j < l.length ∧ a ∈ afs l j ∧ gI (post.reverse.foldl (latRI l) (List.replicate l.length 0)) a + dyA l a = gI (post.reverse.foldl (latRI l) (List.replicate l.length 0)) j) := by
    intro post
    induction post with
    | nil => intro pre _; exact ⟨by simp, fun a ha => (by cases ha)⟩
    | cons i post ih =>
      intro pre e
      obtain ⟨hl, hk⟩ := ih (pre ++ [i]) (by rw [e]; simp)
      have hil : i < l.length := ord_lt (by rw [e]; simp)
      have hni := afs_self h hil
      have hT : topo l ((pre ++ [i]) ++ post) := by rw [show (pre ++ [i]) ++ post = pre ++ i :: post by simp]; exact e ▸ topo_ord l
      have hT' : topo l (pre ++ (i :: post)) := e ▸ topo_ord l
      have hnd : (pre ++ i :: post).Nodup := e ▸ ordK_nodup l _
      have hip : i ∉ post := (List.nodup_cons.1 (List.nodup_append.1 hnd).2.1).1
      have hall : ∀ j, j < l.length → j ∈ pre ++ i :: post := fun j hj => e ▸ ord_all h hj
      rw [List.reverse_cons, List.foldl_append, List.foldl_cons, List.foldl_nil]
      generalize post.reverse.foldl (latRI l) (List.replicate l.length 0) = O at *
      obtain ⟨s1, s2, s3⟩ := endR_spec l O i l.length
      have hGi : gI (latRI l O i) i = endR l O i l.length - dyA l i := gI_set_same (by omega)
      have hGo : ∀ j, j ≠ i → gI (latRI l O i) j = gI O j := fun j hj => gI_set_other (Ne.symm hj)
      refine ⟨by rw [latRI_len]; exact hl, fun a ha => ?_⟩
      have hsucc : ∀ j, j < l.length → a ∈ afs l j → j ≠ i := by
        intro j hj haj ej
        subst ej
        rcases List.mem_cons.1 ha with rfl | ha'
        · exact hni haj
        · have := topo_up hT (j := j) (i := a) (by simp) ha' haj
          exact hip this
      rcases List.mem_cons.1 ha with rfl | ha'
      · rw [hGi]
        refine ⟨by omega, fun j hj haj => ?_, ?_⟩
        · rw [hGo j (hsucc j hj haj)]; have := s2 j hj haj; omega
        · rcases s3 with s3 | ⟨j, hj, haj, s3⟩
          · exact .inl (by omega)
          · exact .inr ⟨j, hj, haj, by rw [hGo j (hsucc j hj haj)]; omega⟩
      · obtain ⟨k1, k2, k3⟩ := hk a ha'
        have hai : a ≠ i := fun e => hip (e ▸ ha')
        rw [hGo a hai]
        refine ⟨k1, fun j hj haj => by rw [hGo j (hsucc j hj haj)]; exact k2 j hj haj, ?_⟩
        rcases k3 with k3 | ⟨j, hj, haj, k3⟩
        · exact .inl k3
        · exact .inr ⟨j, hj, haj, by rw [hGo j (hsucc j hj haj)]; exact k3⟩
  obtain ⟨hl, hk⟩ := key (ord l) [] (by simp)
  exact ⟨hl, fun i hi => (hk i (ord_all h hi)).1, fun i hi => (hk i (ord_all h hi)).2.1, fun i hi => (hk i (ord_all h hi)).2.2⟩
/-- There is one such list. -/
theorem lat_one {l : List Tk} (h : okP l) {x y : List Int} (hx : isLat l x) (hy : isLat l y) : x = y := by
  have half : ∀ {x y : List Int}, isLat l x → isLat l y → ∀ (post pre : List Nat), ord l = pre ++ post → ∀ i ∈ post, gI x i ≤ gI y i := by
    intro x y hx hy post
    induction post with
    | nil => intro pre _ i hi; cases hi
    | cons i post ih =>
      intro pre e
      have hk := ih (pre ++ [i]) (by rw [e]; simp)
      have hil : i < l.length := ord_lt (by rw [e]; simp)
      have hT' : topo l (pre ++ (i :: post)) := e ▸ topo_ord l
      have hall : ∀ j, j < l.length → j ∈ pre ++ i :: post := fun j hj => e ▸ ord_all h hj
      intro j hj
      rcases List.mem_cons.1 hj with rfl | hj
      · rcases hy.some j hil with h1 | ⟨q, hq, hjq, h1⟩
        · have := hx.le j hil; omega
        · have h2 := hx.lt j hil q hq hjq
          have h3 : q ∈ j :: post := topo_up hT' (hall q hq) (List.mem_cons_self ..) hjq
          have h4 : q ∈ post := by
            rcases List.mem_cons.1 h3 with rfl | h3
            · exact absurd hjq (afs_self h hil)
            · exact h3
          have := hk q h4
          omega
      · exact hk j hj
  refine gI_ext (by rw [hx.len, hy.len]) fun i hi => ?_
  rw [hx.len] at hi
  have h1 := half hx hy (ord l) [] (by simp) i (ord_all h hi)
  have h2 := half hy hx (ord l) [] (by simp) i (ord_all h hi)
  omega
theorem lat_eq {l : List Tk} (h : okP l) : latP l = latR l := lat_one h (latP_is h) (latR_is h)
theorem endR_bd {l : List Tk} (h : okP l) {out : List Int} {m : Int} (hm : 201000 ≤ m) (hb : bdL m out) (i : Nat) : ∀ j, -m ≤ endR l out i j ∧ endR l out i j ≤ 201000
  | 0 => by have := lenV_bd h; show -m ≤ lenV l ∧ lenV l ≤ _; omega
  | j + 1 => by
    have h1 := endR_bd h hm hb i j
    have h2 := hb j
    rw [endR_next]; split
    · rename_i hc
      simp only [Bool.and_eq_true, decide_eq_true_eq] at hc
      omega
    · exact h1
theorem latRK_bd {l : List Tk} (h : okP l) : ∀ k : Nat, bdL (202000 + 1000 * k) (latRK l k)
  | 0 => fun i => by show _ ≤ gI (List.replicate l.length 0) i ∧ gI (List.replicate l.length 0) i ≤ _; rw [gI_replicate]; simp
  | k + 1 => by
    have h1 := latRK_bd h k
    by_cases hk : k < (ord l).reverse.length
    · have hi := ord_lt (l := l) (i := (ord l).reverse[k]) (List.mem_reverse.1 (List.getElem_mem hk))
      rw [latRK_next hk]
      have h2 := dy_bd h hi
      have h3 := endR_bd h (by omega) h1 (ord l).reverse[k] l.length
      refine bdL_set (bdL_mono h1 (by push_cast; omega)) ?_ ?_ <;> (push_cast; omega)
    · rw [List.length_reverse] at hk
      rw [latRK_end (by omega)]
      rw [latRK_end (by omega)] at h1
      exact bdL_mono h1 (by push_cast; omega)
end Go.Proofs.Ytgijekhlbkfanaa
