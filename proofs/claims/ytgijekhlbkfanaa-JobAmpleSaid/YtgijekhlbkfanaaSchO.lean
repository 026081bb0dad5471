/- Plans: what a listed schedule has: its end, its bound, all its men; with men enough it is the earliest days. No program is named. -/
import Derived.Test.YtgijekhlbkfanaaSchN
set_option linter.unusedSimpArgs false
set_option linter.unusedVariables false
namespace Go.Proofs.Ytgijekhlbkfanaa

theorem Lst.ear {l : List Tk} {most : Int} {out : List Int} (hP : okP l) (h : Lst l most out) : ∀ i, i < l.length → gI (ear l) i ≤ gI out i :=
  ord_ind hP fun i hi ih => by
    rcases ear_some hP hi with h1 | ⟨a, ha, h1⟩
    · have := (h.pos i hi).1; omega
    · have := ih a ha; have := h.aft i hi a ha; omega
theorem Lst.len_le {l : List Tk} {most : Int} {out : List Int} (hP : okP l) (h : Lst l most out) : lenV l ≤ endsV l out := by
  rcases (ends_spec l (Go.Proofs.Ytgijekhlbkfanaa.ear l)).2.2 with h1 | ⟨i, hi, h1⟩
  · have := (ends_spec l out).1
    unfold lenV; omega
  · have h2 := h.ear hP i hi
    have h3 := (ends_spec l out).2.1 i hi
    unfold lenV; omega
theorem Lst.ends_le {l : List Tk} {most : Int} {out : List Int} (hP : okP l) (h : Lst l most out) : endsV l out ≤ totD l := by
  have h0 := (ends_spec l out).1
  have := busy_days hP (out := out) (D := (endsV l out).toNat) (fun j hj => (h.pos j hj).1) fun e he => by
    have h1 := h.busy e (by omega) (by omega)
    apply Classical.byContradiction
    intro hno
    have : menV l out e = 0 := sN_zero fun k hk => by
      try dsimp only
      rw [if_neg (fun hh => hno ⟨k, hk, hh.1, hh.2⟩)]
    omega
  omega
def wrkV (l : List Tk) : Int := sN (fun k => mnA l k * dyA l k) l.length
theorem Lst.sum {l : List Tk} {most : Int} {out : List Int} (hP : okP l) (h : Lst l most out) : sN (fun e => menV l out (e : Int)) (endsV l out).toNat = wrkV l := by
  have h0 := (ends_spec l out).1
  unfold menV wrkV
  rw [← sN_swap]
  refine sN_congr fun k hk => ?_
  have h1 := (ends_spec l out).2.1 k hk
  have h2 := (dy_bd hP hk).1
  exact sN_stretch (c := mnA l k) (h.pos k hk).1 (by omega) _ (by omega)
theorem Lst.wrk_le {l : List Tk} {most : Int} {out : List Int} (hP : okP l) (h : Lst l most out) : wrkV l ≤ endsV l out * most := by
  have h0 := (ends_spec l out).1
  rw [← h.sum hP]
  have : sN (fun _ => most) (endsV l out).toNat = endsV l out * most := by
    have : ∀ n : Nat, sN (fun _ => most) n = n * most := fun n => by
      induction n with
      | zero => show (0 : Int) = ((0 : Nat) : Int) * most; simp
      | succ n ih =>
        show sN _ n + most = _
        rw [ih, show ((n + 1 : Nat) : Int) = (n : Int) + 1 by omega, Int.add_mul, Int.one_mul]
    rw [this, show (((endsV l out).toNat : Nat) : Int) = endsV l out by omega]
  rw [← this]
  exact sN_le fun e _ => h.crew e
theorem wrk_pos {l : List Tk} (hP : okP l) : 0 ≤ wrkV l := sN_nonneg fun k hk => by
  try dsimp only
  exact Int.mul_nonneg (by have := (mnA_bd hP hk).1; omega) (by have := (dy_bd hP hk).1; omega)
def ceilV (l : List Tk) (most : Int) : Int := (wrkV l + most - 1) / most
theorem Lst.ceil_le {l : List Tk} {most : Int} {out : List Int} (hP : okP l) (h : Lst l most out) (hm : 1 ≤ most) : ceilV l most ≤ endsV l out := by
  have h1 := h.wrk_le hP
  unfold ceilV
  have h2 : (wrkV l + most - 1) / most < endsV l out + 1 := by
    rw [Int.ediv_lt_iff_lt_mul (by omega), Int.add_mul]
    omega
  omega
/-- The days until all have begun. -/
theorem sch_first {l : List Tk} {most : Int} (hP : okP l) (hm : ∀ i, i < l.length → mnA l i ≤ most) : ∃ D, (∀ d, d ≤ D → Run l most d) ∧ (∀ d, d < D → (schK l most (trn l) d).2.length < l.length) ∧ ¬ (schK l most (trn l) D).2.length < l.length := by
  apply Classical.byContradiction
  intro hno
  have key : ∀ d, (∀ e, e ≤ d → Run l most e) ∧ ∀ e, e < d → (schK l most (trn l) e).2.length < l.length := by
    intro d
    induction d with
    | zero => exact ⟨fun e he => by rw [show e = 0 by omega]; exact Run.zeroth l most, fun e he => by omega⟩
    | succ d ih =>
      have hd : (schK l most (trn l) d).2.length < l.length := Classical.byContradiction fun hh => hno ⟨d, ih.1, ih.2, hh⟩
      refine ⟨fun e he => ?_, fun e he => ?_⟩
      · by_cases h : e = d + 1
        · rw [h]; exact (ih.1 d (Nat.le_refl _)).next hP hm hd
        · exact ih.1 e (by omega)
      · by_cases h : e = d
        · rw [h]; exact hd
        · exact ih.2 e (by omega)
  have := ((key ((totD l).toNat + 1)).1 _ (Nat.le_refl _)).bd hP
  omega
theorem Run.day {l : List Tk} {most : Int} {d : Nat} (hP : okP l) (hm : ∀ i, i < l.length → mnA l i ≤ most) (h : Run l most d) : Day l most d (schK l most (trn l) d) (trn l) (schK l most (trn l) (d + 1)) := by
  have hm0 : 0 ≤ most := by have := hm 0 hP.pos; have := (mnA_bd hP hP.pos).1; omega
  exact Day.all hP (trn_is hP) h.inv h.inv2 hm0
theorem sch_pers {l : List Tk} {most : Int} (hP : okP l) (hm : ∀ i, i < l.length → mnA l i ≤ most) {e : Nat} : ∀ m, (∀ d, d ≤ e + m → Run l most d) → (∀ i ∈ (schK l most (trn l) e).2, i ∈ (schK l most (trn l) (e + m)).2 ∧ gI (schK l most (trn l) (e + m)).1 i = gI (schK l most (trn l) e).1 i) ∧
    ∀ i ∈ (schK l most (trn l) (e + m)).2, i ∉ (schK l most (trn l) e).2 → (e : Int) ≤ gI (schK l most (trn l) (e + m)).1 i
  | 0, _ => ⟨fun i hi => ⟨hi, rfl⟩, fun i hi hn => absurd hi hn⟩
  | m + 1, hr => by
    obtain ⟨h1, h2⟩ := sch_pers hP hm (e := e) m fun d hd => hr d (by omega)
    have hD := (hr (e + m) (by omega)).day hP hm
    refine ⟨fun i hi => ?_, fun i hi hn => ?_⟩
    · obtain ⟨h3, h4⟩ := h1 i hi
      exact ⟨hD.old i h3, (hD.keep i (.inr h3)).trans h4⟩
    · by_cases h5 : i ∈ (schK l most (trn l) (e + m)).2
      · have := h2 i h5 hn
        rw [show e + (m + 1) = e + m + 1 by omega, hD.keep i (.inr h5)]; exact this
      · have := (hD.new i hi h5).2.1
        rw [show e + (m + 1) = e + m + 1 by omega, this]; omega
theorem runL_le_all {l : List Tk} (hP : okP l) (out : List Int) (B : List Nat) (d : Int) : runL l out B d ≤ sN (mnA l) l.length := sN_le fun k hk => by
  have := (mnA_bd hP hk).1
  unfold rnF; split <;> omega
theorem LST_ample {l : List Tk} {most : Int} (hP : okP l) (hm : sN (mnA l) l.length ≤ most) : LST l most = ear l := by
  have hme : ∀ i, i < l.length → mnA l i ≤ most := fun i hi => Int.le_trans (sN_one (mnA l) hi fun k hk => by have := (mnA_bd hP hk).1; omega) hm
  have hL := LST_is hP hme
  have hlow := hL.ear hP
  obtain ⟨D, hR, hin, hf⟩ := sch_first hP hme
  rw [← sch_done hP (hR D (Nat.le_refl _)) hf] at hL hlow ⊢
  have hfull := fun i (hi : i < l.length) => (hR D (Nat.le_refl _)).inv.full hf hi
  refine gI_ext (by rw [hL.len, ear_len]) fun i hi => ?_
  rw [hL.len] at hi
  revert i
  refine ord_ind hP fun i hi ih => ?_
  apply Classical.byContradiction
  intro hne
  have h1 := hlow i hi
  have h2 := ((hR D (Nat.le_refl _)).inv.early i (hfull i hi)).2
  obtain ⟨e, he⟩ : ∃ e : Nat, (e : Int) = gI (ear l) i := ⟨(gI (ear l) i).toNat, by have := ear_pos hP i; omega⟩
  have heD : e < D := by omega
  obtain ⟨m, hmm⟩ : ∃ m, D = e + m := ⟨D - e, by omega⟩
  have hp := sch_pers hP hme (e := e) m fun d hd => hR d (by omega)
  rw [← hmm] at hp
  have hRe := hR e (by omega)
  have hie : i ∉ (schK l most (trn l) e).2 := fun hh => by
    have h3 := (hp.1 i hh).2
    have h4 := (hRe.inv.early i hh).2
    omega
  have hae : ∀ a ∈ afs l i, a ∈ (schK l most (trn l) e).2 ∧ gI (schK l most (trn l) e).1 a + dyA l a ≤ e := fun a ha => by
    have hal := afs_lt hP hi ha
    have h3 := ear_le hP hi ha
    have h4 := ih a ha
    have h5 := (dy_bd hP hal).1
    have h6 : a ∈ (schK l most (trn l) e).2 := Classical.byContradiction fun hh => by
      have := hp.2 a (hfull a hal) hh; omega
    refine ⟨h6, ?_⟩
    rw [← (hp.1 a h6).2]; omega
  have hT := trn_is hP
  have hm0 : 0 ≤ most := by have := hme i hi; have := (mnA_bd hP hi).1; omega
  have hnow : i ∈ (schK l most (trn l) (e + 1)).2 := by
    obtain ⟨pre, post, hsp⟩ := List.append_of_mem ((hT.mem i).2 hi)
    have hnd := hT.nd
    rw [hsp] at hnd
    have hDp := Day.fold (post := pre) (pre := []) (most := most) (d := e) (s := schK l most (trn l) e) (t := schK l most (trn l) e) hP hRe.inv.len (by simpa using (List.nodup_append.1 hnd).1) (fun j hj => (hT.mem j).1 (by rw [hsp]; exact List.mem_append_left _ hj)) (Day.begin hP hRe.inv hRe.inv2 hm0)
    rw [List.nil_append] at hDp
    generalize hq : pre.foldl (stR l most e) (schK l most (trn l) e) = q at hDp
    have hfin : schK l most (trn l) (e + 1) = post.foldl (stR l most e) (stR l most e q i) := by
      show dayR l most (trn l) e (schK l most (trn l) e) = _
      unfold dayR
      conv => lhs; arg 3; rw [hsp]
      rw [List.foldl_append, hq]; rfl
    rw [hfin]
    apply fold_grow
    have hip : i ∉ pre := fun hh => (List.nodup_append.1 hnd).2.2 i hh i (List.mem_cons_self ..) rfl
    have hr : rdD l q.1 q.2 e i = true := by
      rw [hDp.rd hP hi hip, rdD_iff]
      exact ⟨hie, hae⟩
    have hni : i ∉ q.2 := (rdD_iff.1 hr).1
    have h6 := runL_add hP (out := q.1) (B := q.2) (d := e) (i := i) (by rw [hDp.len]; exact hRe.inv.len) hi hni
    have h7 := runL_le_all hP (q.1.set i e) (q.2 ++ [i]) e
    unfold stR
    rw [if_pos (by rw [hr]; simp; omega)]
    simp
  have h8 := (hRe.day hP hme).new i hnow hie
  obtain ⟨m2, hm2⟩ : ∃ m2, D = e + 1 + m2 := ⟨D - e - 1, by omega⟩
  have hp2 := sch_pers hP hme (e := e + 1) m2 fun d hd => hR d (by omega)
  rw [← hm2] at hp2
  have h9 := (hp2.1 i hnow).2
  rw [h8.2.1] at h9
  omega
end Go.Proofs.Ytgijekhlbkfanaa
