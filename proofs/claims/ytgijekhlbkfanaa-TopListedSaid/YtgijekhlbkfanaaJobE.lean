/- Plans: the order is one of before and after; the earliest days. No program is named. -/
import Derived.Test.YtgijekhlbkfanaaJobV
set_option linter.unusedSimpArgs false
set_option linter.unusedVariables false
namespace Go.Proofs.Ytgijekhlbkfanaa

def gI (xs : List Int) (i : Nat) : Int := xs[i]?.getD 0
theorem gI_set_same {xs : List Int} {i : Nat} {v : Int} (h : i < xs.length) : gI (xs.set i v) i = v := by unfold gI; rw [List.getElem?_set_self h]; rfl
theorem gI_set_other {xs : List Int} {i j : Nat} {v : Int} (h : i ≠ j) : gI (xs.set i v) j = gI xs j := by unfold gI; rw [List.getElem?_set_ne h]
theorem gI_replicate (n i : Nat) : gI (List.replicate n 0) i = 0 := by
  unfold gI; rw [List.getElem?_replicate]; split <;> rfl
theorem gI_map {n : Nat} {f : Nat → Int} {i : Nat} (h : i < n) : gI ((List.range n).map f) i = f i := by unfold gI; simp [h]
theorem gI_ext {xs ys : List Int} (hl : xs.length = ys.length) (h : ∀ i, i < xs.length → gI xs i = gI ys i) : xs = ys := by
  apply List.ext_getElem hl
  intro i h1 h2
  have := h i h1
  unfold gI at this
  rw [List.getElem?_eq_getElem h1, List.getElem?_eq_getElem h2] at this
  exact this
def dyA (l : List Tk) (i : Nat) : Int := (tkA l i).dy

/-- Each stands behind those before it. -/
def topo (l : List Tk) (o : List Nat) : Prop := ∀ pre i post, o = pre ++ i :: post → i ∉ pre ∧ ∀ a ∈ afs l i, a ∈ pre
theorem topo_ordK (l : List Tk) : ∀ k, topo l (ordK l k)
  | 0 => fun pre i post h => by simp [ordK] at h
  | k + 1 => fun pre i post h => by
    cases hn : nxt l (ordK l k) with
    | none => rw [ordK_stay hn] at h; exact topo_ordK l k pre i post h
    | some j =>
      rw [ordK_next hn] at h
      have hr := rdy_iff.1 (nxt_some hn).2
      rcases List.eq_nil_or_concat post with rfl | ⟨post', x, rfl⟩
      · have := List.append_inj_left' h rfl
        have h2 := List.append_inj_right' h rfl
        cases h2
        rw [← this]
        exact hr
      · rw [List.concat_eq_append, show pre ++ i :: (post' ++ [x]) = (pre ++ i :: post') ++ [x] by simp] at h
        exact topo_ordK l k pre i post' (List.append_inj_left' h rfl)
theorem topo_ord (l : List Tk) : topo l (ord l) := topo_ordK l _
theorem ord_lt {l : List Tk} {i : Nat} (h : i ∈ ord l) : i < l.length := ordK_lt h
theorem ord_all {l : List Tk} (h : okP l) {i : Nat} (hi : i < l.length) : i ∈ ord l := by
  rcases Classical.em (i ∈ ord l) with h1 | h1
  · exact h1
  · exfalso
    have h2 : (i :: ord l).Nodup := List.nodup_cons.2 ⟨h1, ordK_nodup l _⟩
    have := nodup_len h2 (n := l.length) fun x hx => by
      rcases List.mem_cons.1 hx with rfl | hx
      · exact hi
      · exact ord_lt hx
    rw [List.length_cons, h.all] at this; omega
theorem afs_lt {l : List Tk} (h : okP l) {i a : Nat} (hi : i < l.length) (ha : a ∈ afs l i) : a < l.length := by
  unfold afs at ha
  obtain ⟨s, hs, rfl⟩ := List.mem_map.1 ha
  exact h.known i hi s hs
theorem afs_self {l : List Tk} (h : okP l) {i : Nat} (hi : i < l.length) : i ∉ afs l i := by
  obtain ⟨pre, post, e⟩ := List.append_of_mem (ord_all h hi)
  have := topo_ord l pre i post e
  exact fun ha => this.1 (this.2 i ha)
/-- What is taken holds what stands before it. -/
theorem topo_closed {l : List Tk} {pre post : List Nat} (h : topo l (pre ++ post)) {i : Nat} (hi : i ∈ pre) {a : Nat} (ha : a ∈ afs l i) : a ∈ pre := by
  obtain ⟨p1, p2, rfl⟩ := List.append_of_mem hi
  have := (h p1 i (p2 ++ post) (by simp)).2 a ha
  exact List.mem_append_left _ this
theorem topo_up {l : List Tk} {pre post : List Nat} (h : topo l (pre ++ post)) {j i : Nat} (hj : j ∈ pre ++ post) (hi : i ∈ post) (ha : i ∈ afs l j) : j ∈ post := by
  rcases List.mem_append.1 hj with h1 | h1
  · have h2 := topo_closed h h1 ha
    obtain ⟨p1, p2, rfl⟩ := List.append_of_mem hi
    have := (h (pre ++ p1) i p2 (by simp)).1
    exact absurd (List.mem_append_left _ h2) this
  · exact h1

/-! ### earliest days -/
def imax (a b : Int) : Int := if a < b then b else a
def imin (a b : Int) : Int := if b < a then b else a
theorem imax_le (a b : Int) : a ≤ imax a b ∧ b ≤ imax a b := by unfold imax; split <;> omega
theorem imin_le (a b : Int) : imin a b ≤ a ∧ imin a b ≤ b := by unfold imin; split <;> omega
def earS (l : List Tk) (i : Nat) (out : List Int) (a : Nat) : List Int := out.set i (imax (gI out i) (gI out a + dyA l a))
def earJ (l : List Tk) (i : Nat) (out : List Int) (j : Nat) : List Int := ((afs l i).take j).foldl (earS l i) out
def earI (l : List Tk) (out : List Int) (i : Nat) : List Int := (afs l i).foldl (earS l i) out
def earK (l : List Tk) (k : Nat) : List Int := ((ord l).take k).foldl (earI l) (List.replicate l.length 0)
def ear (l : List Tk) : List Int := (ord l).foldl (earI l) (List.replicate l.length 0)
theorem earJ_zero (l : List Tk) (i : Nat) (out : List Int) : earJ l i out 0 = out := rfl
theorem earJ_next {l : List Tk} {i : Nat} {out : List Int} {j : Nat} (h : j < (afs l i).length) : earJ l i out (j + 1) = earS l i (earJ l i out j) (afs l i)[j] := by
  unfold earJ; rw [List.take_succ_eq_append_getElem h, List.foldl_append]; rfl
theorem earJ_end {l : List Tk} {i : Nat} {out : List Int} {j : Nat} (h : (afs l i).length ≤ j) : earJ l i out j = earI l out i := by
  unfold earJ earI; rw [List.take_of_length_le h]
theorem earK_zero (l : List Tk) : earK l 0 = List.replicate l.length 0 := rfl
theorem earK_next {l : List Tk} {k : Nat} (h : k < (ord l).length) : earK l (k + 1) = earI l (earK l k) (ord l)[k] := by
  unfold earK; rw [List.take_succ_eq_append_getElem h, List.foldl_append]; rfl
theorem earK_end {l : List Tk} {k : Nat} (h : (ord l).length ≤ k) : earK l k = ear l := by
  unfold earK ear; rw [List.take_of_length_le h]
theorem earS_len (l : List Tk) (i : Nat) (out : List Int) (a : Nat) : (earS l i out a).length = out.length := by unfold earS; rw [List.length_set]
theorem foldl_len {f : List Int → Nat → List Int} (hf : ∀ o a, (f o a).length = o.length) : ∀ (xs : List Nat) (o : List Int), (xs.foldl f o).length = o.length
  | [], o => rfl
  | x :: xs, o => by rw [List.foldl_cons, foldl_len hf xs, hf]
theorem earJ_len (l : List Tk) (i : Nat) (out : List Int) (j : Nat) : (earJ l i out j).length = out.length := foldl_len (earS_len l i) _ _
theorem earI_len (l : List Tk) (out : List Int) (i : Nat) : (earI l out i).length = out.length := foldl_len (earS_len l i) _ _
theorem earK_len (l : List Tk) (k : Nat) : (earK l k).length = l.length := by unfold earK; rw [foldl_len (earI_len l), List.length_replicate]
theorem ear_len (l : List Tk) : (ear l).length = l.length := by unfold ear; rw [foldl_len (earI_len l), List.length_replicate]

/-- The greatest end of some tasks. -/
def mxs (l : List Tk) (out : List Int) (m : Int) (as : List Nat) : Int := as.foldl (fun m a => imax m (gI out a + dyA l a)) m
theorem mxs_congr {l : List Tk} {o o' : List Int} : ∀ {as : List Nat} {m : Int}, (∀ a ∈ as, gI o a = gI o' a) → mxs l o m as = mxs l o' m as
  | [], m, _ => rfl
  | a :: as, m, h => by
    show mxs l o (imax m (gI o a + dyA l a)) as = mxs l o' (imax m (gI o' a + dyA l a)) as
    rw [h a (List.mem_cons_self ..)]
    exact mxs_congr fun b hb => h b (List.mem_cons_of_mem _ hb)
theorem mxs_spec {l : List Tk} {o : List Int} : ∀ {as : List Nat} {m : Int}, m ≤ mxs l o m as ∧ (∀ a ∈ as, gI o a + dyA l a ≤ mxs l o m as) ∧ (mxs l o m as = m ∨ ∃ a ∈ as, mxs l o m as = gI o a + dyA l a)
  | [], m => ⟨Int.le_refl _, fun a h => (by cases h), .inl rfl⟩
  | a :: as, m => by
    obtain ⟨h1, h2, h3⟩ := mxs_spec (l := l) (o := o) (as := as) (m := imax m (gI o a + dyA l a))
    have h4 := imax_le m (gI o a + dyA l a)
    refine ⟨Int.le_trans h4.1 h1, fun b hb => ?_, ?_⟩
    · rcases List.mem_cons.1 hb with rfl | hb
      · exact Int.le_trans h4.2 h1
      · exact h2 b hb
    · rcases h3 with h3 | ⟨b, hb, h3⟩
      · show mxs l o (imax m (gI o a + dyA l a)) as = m ∨ _
        rw [h3]
        by_cases hm : m < gI o a + dyA l a
        · exact .inr ⟨a, List.mem_cons_self .., by show mxs l o (imax m (gI o a + dyA l a)) as = _; rw [h3]; unfold imax; rw [if_pos hm]⟩
        · left; unfold imax; rw [if_neg hm]
      · exact .inr ⟨b, List.mem_cons_of_mem _ hb, h3⟩
theorem earI_set {l : List Tk} {i : Nat} : ∀ {as : List Nat} {out : List Int}, i < out.length → i ∉ as → as.foldl (earS l i) out = out.set i (mxs l out (gI out i) as)
  | [], out, hi, _ => by
    show out = out.set i (gI out i)
    unfold gI; rw [List.getElem?_eq_getElem hi]; simp
  | a :: as, out, hi, h => by
    have ha : i ≠ a := fun e => h (e ▸ List.mem_cons_self ..)
    rw [List.foldl_cons, earI_set (by rw [earS_len]; exact hi) fun hh => h (List.mem_cons_of_mem _ hh)]
    unfold earS
    rw [List.set_set, gI_set_same hi]
    show _ = out.set i (mxs l out (imax (gI out i) (gI out a + dyA l a)) as)
    congr 1
    exact mxs_congr fun b hb => gI_set_other fun e => h (e ▸ List.mem_cons_of_mem _ hb)
/-- Days that are the least ones. -/
structure isEar (l : List Tk) (out : List Int) : Prop where
  len : out.length = l.length
  at_ : ∀ i, i < l.length → gI out i = mxs l out 0 (afs l i)
theorem ear_is {l : List Tk} (h : okP l) : isEar l (ear l) := by
  have key : ∀ (pre post : List Nat), ord l = pre ++ post → (∀ i, i ∉ pre → gI (pre.foldl (earI l) (List.replicate l.length 0)) i = 0) ∧ ∀ i ∈ pre, gI (pre.foldl (earI l) (List.replicate l.length 0)) i = mxs l (pre.foldl (earI l) (List.replicate l.length 0)) 0 (afs l i) := by
    intro pre
    induction hn : pre.length generalizing pre with
    | zero =>
      intro post _
      have : pre = [] := List.eq_nil_of_length_eq_zero hn
      subst this
      exact ⟨fun i _ => gI_replicate _ _, fun i hi => (by cases hi)⟩
    | succ n ih =>
      intro post e
      rcases List.eq_nil_or_concat pre with rfl | ⟨pre, i, rfl⟩
      · simp at hn
      · rw [List.concat_eq_append] at e hn ⊢
        have hn' : pre.length = n := by simpa using hn
        have e' : ord l = pre ++ i :: post := by rw [e]; simp
        obtain ⟨h1, h2⟩ := ih pre hn' (i :: post) e'
        have ht := topo_ord l pre i post e'
        have hil : i < l.length := ord_lt (by rw [e']; simp)
        rw [List.foldl_append, List.foldl_cons, List.foldl_nil]
        generalize hO : pre.foldl (earI l) (List.replicate l.length 0) = O at *
        have hOl : O.length = l.length := by rw [← hO, foldl_len (earI_len l), List.length_replicate]
        have hni := afs_self h hil
        have hE : earI l O i = O.set i (mxs l O (gI O i) (afs l i)) := earI_set (by omega) hni
        rw [hE, h1 i ht.1]
        refine ⟨fun j hj => ?_, fun j hj => ?_⟩
        · rw [gI_set_other (fun e => hj (by rw [e]; simp))]
          exact h1 j fun hh => hj (List.mem_append_left _ hh)
        · rcases List.mem_append.1 hj with hj | hj
          · rw [gI_set_other (i := i) (j := j) (fun e => ht.1 (by rw [e]; exact hj)), h2 j hj]
            have hc : topo l (pre ++ i :: post) := e' ▸ topo_ord l
            exact mxs_congr fun a ha => (gI_set_other (fun e : i = a => ht.1 (by rw [e]; exact topo_closed hc hj ha))).symm
          · rw [List.mem_singleton.1 hj, gI_set_same (by omega)]
            exact mxs_congr fun a ha => (gI_set_other (i := i) (j := a) (fun e => hni (by rw [← e] at ha; exact ha))).symm
  obtain ⟨_, h2⟩ := key (ord l) [] (by simp)
  exact ⟨ear_len l, fun i hi => h2 i (ord_all h hi)⟩

/-! ### bounds -/
def bdE (m : Int) (out : List Int) : Prop := ∀ i, 0 ≤ gI out i ∧ gI out i ≤ m
theorem bdE_mono {m m' : Int} {out : List Int} (h : bdE m out) (hm : m ≤ m') : bdE m' out := fun i => ⟨(h i).1, Int.le_trans (h i).2 hm⟩
theorem bdE_set {m : Int} {out : List Int} (h : bdE m out) {i : Nat} {v : Int} (h0 : 0 ≤ v) (h1 : v ≤ m) : bdE m (out.set i v) := fun j => by
  by_cases e : i = j
  · subst e
    by_cases hi : i < out.length
    · rw [gI_set_same hi]; exact ⟨h0, h1⟩
    · have := h i
      unfold gI at this ⊢
      rw [List.getElem?_eq_none (by rw [List.length_set]; omega)]
      rw [List.getElem?_eq_none (by omega)] at this
      exact this
  · rw [gI_set_other e]; exact h j
theorem dy_bd {l : List Tk} (h : okP l) {i : Nat} (hi : i < l.length) : 1 ≤ dyA l i ∧ dyA l i ≤ 1000 := (okTk_spec (h.each i hi)).2.1
theorem mn_bd {l : List Tk} (h : okP l) {i : Nat} (hi : i < l.length) : 1 ≤ (tkA l i).mn ∧ (tkA l i).mn ≤ 16 := (okTk_spec (h.each i hi)).2.2
theorem earS_bd {l : List Tk} (h : okP l) {m : Int} {out : List Int} (hb : bdE m out) {i a : Nat} (ha : a < l.length) : bdE (m + 1000) (earS l i out a) := by
  have h1 := dy_bd h ha
  have h2 := hb i
  have h3 := hb a
  refine bdE_set (bdE_mono hb (by omega)) ?_ ?_ <;> (unfold imax; split <;> omega)
theorem afs_len (l : List Tk) (i : Nat) : (afs l i).length = (tkA l i).af.length := List.length_map ..
theorem earJ_bd {l : List Tk} (h : okP l) {m : Int} {out : List Int} (hb : bdE m out) {i : Nat} (hi : i < l.length) : ∀ j : Nat, bdE (m + 1000 * j) (earJ l i out j)
  | 0 => by rw [earJ_zero]; simpa using hb
  | j + 1 => by
    have h1 := earJ_bd h hb hi j
    by_cases hj : j < (afs l i).length
    · rw [earJ_next hj]
      have := earS_bd h h1 (i := i) (afs_lt h hi (List.getElem_mem hj))
      exact bdE_mono this (by push_cast; omega)
    · rw [earJ_end (by omega)]
      rw [earJ_end (by omega)] at h1
      exact bdE_mono h1 (by push_cast; omega)
theorem earK_bd {l : List Tk} (h : okP l) : ∀ k : Nat, bdE (10000 * k) (earK l k)
  | 0 => fun i => by rw [earK_zero, gI_replicate]; simp
  | k + 1 => by
    have h1 := earK_bd h k
    by_cases hk : k < (ord l).length
    · have hi := ord_lt (List.getElem_mem hk)
      rw [earK_next hk]
      have := earJ_bd h h1 hi (afs l (ord l)[k]).length
      rw [earJ_end (Nat.le_refl _)] at this
      have h2 := h.few _ hi
      rw [← afs_len] at h2
      exact bdE_mono this (by push_cast; omega)
    · rw [earK_end (by omega)]
      rw [earK_end (by omega)] at h1
      exact bdE_mono h1 (by push_cast; omega)
theorem earKJ_bd {l : List Tk} (h : okP l) {k j : Nat} (hk : k < (ord l).length) (hj : j ≤ 10) : bdE 300000 (earJ l (ord l)[k] (earK l k) j) := by
  have h1 := earJ_bd h (earK_bd h k) (ord_lt (List.getElem_mem hk)) j
  have := h.all; have := h.len
  exact bdE_mono h1 (by omega)
end Go.Proofs.Ytgijekhlbkfanaa
