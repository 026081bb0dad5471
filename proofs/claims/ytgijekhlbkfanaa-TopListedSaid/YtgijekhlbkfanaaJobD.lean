/- Plans: a task that takes more days; the length then. No program is named. -/
import Derived.Test.YtgijekhlbkfanaaJobC
set_option linter.unusedSimpArgs false
set_option linter.unusedVariables false
namespace Go.Proofs.Ytgijekhlbkfanaa

theorem tkA_ge {l : List Tk} {i : Nat} (h : l.length ≤ i) : tkA l i = t0 := by unfold tkA; rw [List.getElem?_eq_none h]; rfl
/-- Plans with the same names and the same names before each task. -/
structure alike (l l' : List Tk) : Prop where
  len : l'.length = l.length
  nm : ∀ i, (tkA l' i).nm = (tkA l i).nm
  af : ∀ i, (tkA l' i).af = (tkA l i).af
theorem alike.fnd {l l' : List Tk} (h : alike l l') (s : ByteArray) : fnd l' s = fnd l s := by
  have h1 := fnd_le l s
  rcases Nat.lt_or_ge (Go.Proofs.Ytgijekhlbkfanaa.fnd l s) l.length with h2 | h2
  · refine fnd_eq (by rw [h.len]; exact h2) (by rw [h.nm]; exact fnd_at h2) fun j hj => by rw [h.nm]; exact fnd_no hj
  · have h3 : Go.Proofs.Ytgijekhlbkfanaa.fnd l' s = l'.length := fnd_none fun j hj => by rw [h.nm]; exact fnd_no (by rw [h.len] at hj; omega)
    rw [h3, h.len]; omega
theorem alike.afs {l l' : List Tk} (h : alike l l') (i : Nat) : afs l' i = afs l i := by
  unfold Go.Proofs.Ytgijekhlbkfanaa.afs
  rw [h.af]
  exact List.map_congr_left fun s _ => h.fnd s
theorem alike.ordK {l l' : List Tk} (h : alike l l') : ∀ k, ordK l' k = ordK l k
  | 0 => rfl
  | k + 1 => by
    have e : nxt l' (Go.Proofs.Ytgijekhlbkfanaa.ordK l' k) = nxt l (Go.Proofs.Ytgijekhlbkfanaa.ordK l k) := by
      unfold nxt
      rw [h.len, h.ordK k]
      congr 1
      funext i
      unfold rdy
      rw [h.afs]
    cases hn : nxt l (Go.Proofs.Ytgijekhlbkfanaa.ordK l k) with
    | none => rw [ordK_stay hn, ordK_stay (e.trans hn), h.ordK k]
    | some j => rw [ordK_next hn, ordK_next (e.trans hn), h.ordK k]
theorem alike.ord {l l' : List Tk} (h : alike l l') : ord l' = ord l := by unfold Go.Proofs.Ytgijekhlbkfanaa.ord; rw [h.len]; exact h.ordK _
theorem alike.ok {l l' : List Tk} (h : alike l l') (hl : okP l) (he : ∀ i, i < l.length → okTk (tkA l' i) = true) : okP l' := by
  refine ⟨by rw [h.len]; exact hl.pos, by rw [h.len]; exact hl.len, fun i hi => he i (by rw [← h.len]; exact hi), fun i hi => ?_, fun i hi => ?_, fun i hi s hs => ?_, fun i hi k hk => ?_, ?_⟩
  · rw [h.fnd, h.nm]; exact hl.apart i (by rw [← h.len]; exact hi)
  · rw [h.af]; exact hl.few i (by rw [← h.len]; exact hi)
  · rw [h.fnd, h.len]; rw [h.af] at hs; exact hl.known i (by rw [← h.len]; exact hi) s hs
  · unfold afA; rw [h.af] at hk ⊢; exact hl.once i (by rw [← h.len]; exact hi) k hk
  · rw [h.ord, h.len]; exact hl.all

theorem alone_mk {l : List Tk} (h : okP l) : aloneE l = 0 := frst_all fun x hx => by
  obtain ⟨i, hi, rfl⟩ := List.mem_map.1 hx
  have hi := List.mem_range.1 hi
  unfold tkE
  rw [if_neg (by rw [h.each i hi]; decide), if_neg (by rw [h.apart i hi]; omega), if_neg (by have := h.few i hi; omega)]
theorem names_mk {l : List Tk} (h : okP l) : namesE l = 0 := frst_all fun x hx => by
  obtain ⟨i, hi, rfl⟩ := List.mem_map.1 hx
  have hi := List.mem_range.1 hi
  refine frst_all fun y hy => ?_
  obtain ⟨k, hk, rfl⟩ := List.mem_map.1 hy
  have hk := List.mem_range.1 hk
  unfold afE
  rw [if_pos (h.known i hi _ (afA_mem hk)), if_neg fun hh => h.once i hi k hk (isIn_iff.1 hh)]
/-- A plan that is one passes. -/
theorem check_mk {l : List Tk} (h : okP l) : checkE l = 0 := by
  unfold checkE
  have h1 := h.pos; have h2 := h.len; have h3 := h.all
  rw [if_neg (by omega), if_neg (by omega), if_neg (by rw [alone_mk h]; decide), if_neg (by rw [names_mk h]; decide), if_neg (by omega)]

/-- A task takes more days. -/
def dlT (l : List Tk) (i : Nat) (d : Int) : List Tk := l.set i { tkA l i with dy := dyA l i + d }
theorem dlT_len (l : List Tk) (i : Nat) (d : Int) : (dlT l i d).length = l.length := by unfold dlT; rw [List.length_set]
theorem dlT_at {l : List Tk} {i : Nat} {d : Int} (hi : i < l.length) : tkA (dlT l i d) i = { tkA l i with dy := dyA l i + d } := by
  unfold dlT tkA; rw [List.getElem?_set_self hi]; rfl
theorem dlT_ne {l : List Tk} {i j : Nat} {d : Int} (h : i ≠ j) : tkA (dlT l i d) j = tkA l j := by
  unfold dlT tkA; rw [List.getElem?_set_ne h]
theorem dlT_alike {l : List Tk} {i : Nat} {d : Int} (hi : i < l.length) : alike l (dlT l i d) := by
  refine ⟨dlT_len l i d, fun j => ?_, fun j => ?_⟩
  · by_cases e : i = j
    · subst e; rw [dlT_at hi]
    · rw [dlT_ne e]
  · by_cases e : i = j
    · subst e; rw [dlT_at hi]
    · rw [dlT_ne e]
theorem dlT_dy {l : List Tk} {i j : Nat} {d : Int} (hi : i < l.length) : dyA (dlT l i d) j = if j = i then dyA l i + d else dyA l j := by
  unfold dyA
  by_cases e : j = i
  · subst e; rw [if_pos rfl, dlT_at hi]; rfl
  · rw [if_neg e, dlT_ne (Ne.symm e)]
theorem dlT_ok {l : List Tk} (h : okP l) {i : Nat} {d : Int} (hi : i < l.length) (hd : 0 ≤ d) (hm : dyA l i + d ≤ 1000) : okP (dlT l i d) := by
  refine (dlT_alike hi).ok h fun j hj => ?_
  have h1 := dy_bd h hi
  by_cases e : i = j
  · subst e
    rw [dlT_at hi]
    have h2 := h.each i hi
    unfold okTk at h2 ⊢
    simp only [Bool.and_eq_true] at h2 ⊢
    exact ⟨⟨h2.1.1, wi_iff.2 ⟨by show 1 ≤ dyA l i + d; omega, hm⟩⟩, h2.2⟩
  · rw [dlT_ne e]; exact h.each j hj
/-- Days grow where a task takes more. -/
theorem ear_grow {l l' : List Tk} (h : okP l) (h' : okP l') (ha : alike l l') (hd : ∀ i, dyA l i ≤ dyA l' i) : ∀ i, i < l.length → gI (ear l) i ≤ gI (ear l') i :=
  ord_ind h fun i hi ih => by
    have hi' : i < l'.length := by rw [ha.len]; exact hi
    rcases ear_some h hi with h1 | ⟨a, haa, h1⟩
    · have := ear_pos h' i; omega
    · have h2 := ih a haa
      have h3 := ear_le h' hi' (a := a) (by rw [ha.afs]; exact haa)
      have := hd a
      omega
theorem lenV_end {l : List Tk} (h : okP l) : ∃ i, i < l.length ∧ lenV l = gI (ear l) i + dyA l i := by
  obtain ⟨_, _, h3⟩ := ends_spec l (ear l)
  rcases h3 with h3 | h3
  · exfalso
    have h4 := (dy_bd h h.pos).1
    have h5 := ear_end (l := l) h.pos
    have h6 := ear_pos h 0
    have : lenV l = 0 := h3
    omega
  · exact h3
theorem lenV_grow {l l' : List Tk} (h : okP l) (h' : okP l') (ha : alike l l') (hd : ∀ i, dyA l i ≤ dyA l' i) : lenV l ≤ lenV l' := by
  obtain ⟨i, hi, e⟩ := lenV_end h
  have h1 := ear_grow h h' ha hd i hi
  have h2 := ear_end (l := l') (i := i) (by rw [ha.len]; exact hi)
  have := hd i
  omega
theorem tail_grow {l l' : List Tk} (h : okP l) (h' : okP l') (ha : alike l l') (hd : ∀ i, dyA l i ≤ dyA l' i) : ∀ j, j < l.length → gI (ear l') j + dyA l' j + (tlV l j - dyA l j) ≤ lenV l' :=
  ord_ind_up h fun j hj ih => by
    have hj' : j < l'.length := by rw [ha.len]; exact hj
    rcases (latP_is h).some j hj with h1 | ⟨q, hq, hjq, h1⟩
    · have := ear_end hj'
      unfold tlV; omega
    · have h2 := ih q hq hjq
      have h3 := ear_le h' (i := q) (by rw [ha.len]; exact hq) (a := j) (by rw [ha.afs]; exact hjq)
      have := hd q
      unfold tlV at *; omega
/-- The length of the plan in which task i takes d days more. -/
def slk (l : List Tk) (i : Nat) : Int := gI (latP l) i - gI (ear l) i
theorem lenV_delay {l : List Tk} (h : okP l) {i : Nat} {d : Int} (hi : i < l.length) (hd : 0 ≤ d) (hm : dyA l i + d ≤ 1000) : lenV (dlT l i d) = imax (lenV l) (lenV l - slk l i + d) := by
  have h' := dlT_ok h hi hd hm
  have ha := dlT_alike (d := d) hi
  have hdy := fun j => dlT_dy (j := j) (d := d) hi
  have hgr : ∀ j, dyA l j ≤ dyA (dlT l i d) j := fun j => by rw [hdy]; split <;> rename_i e <;> first | (subst e; omega) | exact Int.le_refl _
  have hsame : ∀ pre post, Go.Proofs.Ytgijekhlbkfanaa.ord l = pre ++ i :: post → ∀ j ∈ pre ++ [i], gI (ear (dlT l i d)) j = gI (ear l) j := by
    intro pre post e
    have hT : topo l (pre ++ i :: post) := e ▸ topo_ord l
    have hnp := (topo_ord l pre i post e).1
    have key : ∀ j, j < l.length → j ∈ pre ++ [i] → gI (ear (dlT l i d)) j = gI (ear l) j := by
      refine ord_ind h fun j hj ih hjp => ?_
      have hT2 : topo l ((pre ++ [i]) ++ post) := by rw [show (pre ++ [i]) ++ post = pre ++ i :: post by simp]; exact hT
      rw [(ear_is h').at_ j (by rw [ha.len]; exact hj), (ear_is h).at_ j hj, ha.afs]
      have hni : i ∉ afs l j := fun hij => by
        rcases List.mem_append.1 hjp with h1 | h1
        · exact hnp (topo_closed hT h1 hij)
        · rw [List.mem_singleton.1 h1] at hij; exact afs_self h hi hij
      have hag : ∀ a ∈ afs l j, gI (ear (dlT l i d)) a = gI (ear l) a ∧ dyA (dlT l i d) a = dyA l a := fun a haa =>
        ⟨ih a haa (topo_closed hT2 hjp haa), by rw [hdy, if_neg fun e => hni (by rw [← e]; exact haa)]⟩
      have hgen : ∀ (as : List Nat) (m : Int), (∀ a ∈ as, gI (ear (dlT l i d)) a = gI (ear l) a ∧ dyA (dlT l i d) a = dyA l a) → mxs (dlT l i d) (ear (dlT l i d)) m as = mxs l (ear l) m as := by
        intro as
        induction as with
        | nil => intro m _; rfl
        | cons a as iha =>
          intro m hh
          obtain ⟨q1, q2⟩ := hh a (List.mem_cons_self ..)
          show mxs _ _ (imax m (gI (ear (dlT l i d)) a + dyA (dlT l i d) a)) as = mxs l (ear l) (imax m (gI (ear l) a + dyA l a)) as
          rw [q1, q2]
          exact iha _ fun b hb => hh b (List.mem_cons_of_mem _ hb)
      exact hgen _ _ hag
    intro j hj
    refine key j (ord_lt (by rw [e, show pre ++ i :: post = (pre ++ [i]) ++ post by simp]; exact List.mem_append_left _ hj)) hj
  have hei : gI (ear (dlT l i d)) i = gI (ear l) i := by
    obtain ⟨pre, post, e⟩ := List.append_of_mem (ord_all h hi)
    exact hsame pre post e i (by simp)
  have hsl : slk l i = gI (latP l) i - gI (ear l) i := rfl
  have hup : ∀ j, j < l.length → gI (ear (dlT l i d)) j ≤ imax (gI (ear l) j) (gI (latP l) j + d - slk l i) := by
    refine ord_ind h fun j hj ih => ?_
    have hj' : j < (dlT l i d).length := by rw [ha.len]; exact hj
    rcases ear_some h' hj' with h1 | ⟨a, haa, h1⟩
    · have := ear_pos h j; have := (imax_le (gI (ear l) j) (gI (latP l) j + d - slk l i)).1; omega
    · rw [ha.afs] at haa
      have hal := afs_lt h hj haa
      have h2 := ih a haa
      have h3 := ear_le h hj haa
      have h4 := (latP_is h).lt a hal j hj haa
      rw [h1, hdy]
      have h5 := imax_le (gI (ear l) j) (gI (latP l) j + d - slk l i)
      split
      · rename_i e
        subst e
        rw [hei]; omega
      · have h6 : gI (ear (dlT l i d)) a ≤ imax (gI (ear l) a) (gI (latP l) a + d - slk l i) := h2
        unfold imax at h6 ⊢
        split at h6 <;> split <;> omega
  have h5 := imax_le (lenV l) (lenV l - slk l i + d)
  have hle : lenV (dlT l i d) ≤ imax (lenV l) (lenV l - slk l i + d) := by
    obtain ⟨j, hj, e⟩ := lenV_end h'
    rw [ha.len] at hj
    have h1 := hup j hj
    have h2 := ear_end hj
    have h3 := (latP_is h).le j hj
    rw [e, hdy]
    split
    · rename_i e; subst e; rw [hei]; omega
    · unfold imax at h1 ⊢
      split at h1 <;> split <;> omega
  have hge1 := lenV_grow h h' ha hgr
  have hge2 := tail_grow h h' ha hgr i hi
  rw [hei, hdy, if_pos rfl] at hge2
  have hge3 : lenV l - slk l i + d ≤ lenV (dlT l i d) := by unfold tlV at hge2; omega
  have : imax (lenV l) (lenV l - slk l i + d) ≤ lenV (dlT l i d) := by unfold imax; split <;> omega
  omega
end Go.Proofs.Ytgijekhlbkfanaa
