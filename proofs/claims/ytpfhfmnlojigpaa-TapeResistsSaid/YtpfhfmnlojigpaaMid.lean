/- A region that draws its order, whose operation number n waits for all that stand ahead of it while all that stand behind it wait for it: the head and the rest by the cheap quiet step, the one operation as plain code. No program is named. -/
import Derived.Test.YtpfhfmnlojigpaaTail
import Derived.Deep.QuietTactic
import Derived.BigQuiet
set_option linter.unusedSimpArgs false
set_option linter.unusedVariables false
namespace Go.Proofs.Ytpfhfmnlojigpaa
open Go.RowKit

section
variable {P : Program} {md : Region.Mode}

def wfB (md : Region.Mode) (l : List Oper) (j i : Nat) : Bool := match l[j]? with | some o => o.after.any (fun e => Region.binds md e && e.on == i) | none => false
theorem wfB_spec {l : List Oper} {j i : Nat} (h : wfB md l j i = true) : ∃ o, l[j]? = some o ∧ ∃ e ∈ o.after, Region.binds md e = true ∧ e.on = i := by
  unfold wfB at h
  cases hl : l[j]? with
  | none => rw [hl] at h; cases h
  | some o =>
    rw [hl] at h
    obtain ⟨e, he, hb⟩ := Array.any_eq_true'.1 h
    simp only [Bool.and_eq_true, beq_iff_eq] at hb
    exact ⟨o, rfl, e, he, hb.1, hb.2⟩
/-- Operations of the head: no guard, they wait for earlier ones alone. -/
def headB (md : Region.Mode) (l : List Oper) (n : Nat) : Bool :=
  (List.range n).all fun i => match l[i]? with | some o => o.guard.isNone && o.after.all (fun e => !Region.binds md e || decide (e.on < i)) | none => false
def midB (md : Region.Mode) (l : List Oper) (n : Nat) : Bool :=
  Region.noSelect l.toArray && (Region.noSelect (l.take n).toArray && (decide (n < l.length) && (headB md l n && ((List.range n).all (fun i => (List.range (n + 1)).any fun j => decide (i < j) && wfB md l j i) &&
    ((List.range l.length).all (fun t => decide (t ≤ n) || (List.range t).any fun j => decide (n ≤ j) && wfB md l t j) &&
    (Region.lexFrom md (l.take n).toArray n 0 (Array.replicate n false) &&
    ((Region.ready md l.toArray (Array.replicate n true ++ Array.replicate (l.length - n) false) == [n]) &&
    (((l[n]?).map (fun o => o.guard.isNone)).getD false && Region.lexFrom md l.toArray (l.length - (n + 1)) (n + 1) ((Array.replicate n true ++ Array.replicate (l.length - n) false).setIfInBounds n true)))))))))
def cu (l : List Bool) : Nat := (l.filter (fun b => !b)).length
theorem cu_set : ∀ (l : List Bool) (i : Nat), l[i]? = some false → cu (l.set i true) + 1 = cu l := by
  intro l
  induction l with
  | nil => intro i h; simp at h
  | cons b l ih =>
    intro i h
    cases i with
    | zero => have hb : b = false := by simpa using h
              subst hb; simp [cu]
    | succ i =>
      have := ih i (by simpa using h)
      unfold cu at *
      cases b <;> simp [List.filter_cons] at * <;> omega
theorem cu_zero : ∀ {l : List Bool}, cu l = 0 → ∀ i, i < l.length → l[i]? = some true := by
  intro l
  induction l with
  | nil => intro _ i h; simp at h
  | cons b l ih =>
    intro h i hi
    cases b
    · simp [cu] at h
    · have h' : cu l = 0 := by simpa [cu] using h
      cases i with
      | zero => rfl
      | succ i => simpa using ih h' i (by simpa using hi)
theorem cu_pos : ∀ {l : List Bool}, cu l ≠ 0 → ∃ i, i < l.length ∧ l[i]? = some false := by
  intro l
  induction l with
  | nil => intro h; exact absurd rfl h
  | cons b l ih =>
    intro h
    cases b
    · exact ⟨0, by simp, rfl⟩
    · obtain ⟨i, h1, h2⟩ := ih (by simpa [cu] using h)
      exact ⟨i + 1, by simpa using h1, by simpa using h2⟩
theorem cu_rep (n : Nat) : cu (List.replicate n false) = n := by simp [cu]

def Closed (md : Region.Mode) (l : List Oper) (listed : Array Bool) : Prop := ∀ j o, l[j]? = some o → listed.getD j false = true → ∀ e ∈ o.after, Region.binds md e = true → listed.getD e.on false = true
theorem gD_app {n m j : Nat} {listed : Array Bool} (hs : listed.size = n) (d : Bool) (hj : j < n) : (listed ++ Array.replicate m false).getD j d = listed.getD j d := by
  rw [Array.getD_eq_getD_getElem?, Array.getD_eq_getD_getElem?, Array.getElem?_append_left (by omega)]
theorem gD_app2 {n m j : Nat} {listed : Array Bool} (hs : listed.size = n) (hj : n ≤ j) : (listed ++ Array.replicate m false).getD j false = false := by
  rw [Array.getD_eq_getD_getElem?, Array.getElem?_append_right (by omega)]
  by_cases h : j - listed.size < m
  · simp [h]
  · simp [h]
theorem gD_tf {listed : Array Bool} {i : Nat} (hi : i < listed.size) (d d' : Bool) : listed.getD i d = listed.getD i d' := by simp [Array.getD, hi]

theorem head_any {C : World → Prop} {l : List Oper} {n m g : Nat} {Qh : Act → Prop} {Q' : Exit → Act → World → Prop} (hn : n ≤ l.length) (hm : n + m = l.length) (hh : headB md l n = true)
    (hs : ∀ i, i < n → ∃ j, i < j ∧ j ≤ n ∧ wfB md l j i = true) (ht : ∀ t, t < l.length → n < t → ∃ j, n ≤ j ∧ j < t ∧ wfB md l t j = true)
    (hq : ∀ a w, C w → Qh a → wpAny P md l.toArray Q' g (Array.replicate n true ++ Array.replicate m false) a w) :
    ∀ (f : Nat) (listed : Array Bool) (a : Act) (w : World), listed.size = n → cu listed.toList = f → Closed md (l.take n) listed → C w → wpAnyQ P md (l.take n).toArray C Qh f listed a → wpAny P md l.toArray Q' (f + g) (listed ++ Array.replicate m false) a w := by
  have htk : ∀ i, i < n → (l.take n)[i]? = l[i]? := fun i hi => by rw [List.getElem?_take, if_pos hi]
  intro f
  induction f with
  | zero =>
    intro listed a w hsz hc _ hw h
    have e : listed = Array.replicate n true := by
      apply Array.ext
      · simpa using hsz
      · intro i h1 h2
        have := cu_zero hc i (by simpa using h1)
        rw [Array.getElem?_toList, Array.getElem?_eq_getElem h1] at this
        simpa using this
    rw [Nat.zero_add, e]
    exact hq a w hw h.2
  | succ f ih =>
    intro listed a w hsz hc hcl hw h
    -- the least unlisted operation is ready
    have hun : ∃ i, i < n ∧ listed.getD i true = false := by
      obtain ⟨i, h1, h2⟩ := cu_pos (l := listed.toList) (by omega)
      have h1' : i < listed.size := by simpa using h1
      exact ⟨i, by omega, by simpa [Array.getD, h1'] using h2⟩
    have hleast : ∃ i, i < n ∧ listed.getD i true = false ∧ ∀ j, j < i → listed.getD j true = true := by
      obtain ⟨i, h1, h2⟩ := hun
      induction i using Nat.strongRecOn with
      | _ i ihi =>
        by_cases hx : ∃ j, j < i ∧ listed.getD j true = false
        · obtain ⟨j, h3, h4⟩ := hx
          exact ihi j h3 (by omega) h4
        · exact ⟨i, h1, h2, fun j hj => by
            cases hb : listed.getD j true with
            | true => rfl
            | false => exact absurd ⟨j, hj, hb⟩ hx⟩
    have hmost : ∃ i, i < n ∧ listed.getD i true = false ∧ ∀ j, i < j → j < n → listed.getD j true = true := by
      obtain ⟨i, h1, h2⟩ := hun
      obtain ⟨d, hd⟩ : ∃ d, d = n - i := ⟨_, rfl⟩
      induction d using Nat.strongRecOn generalizing i with
      | _ d ihd =>
        by_cases hx : ∃ j, i < j ∧ j < n ∧ listed.getD j true = false
        · obtain ⟨j, h3, h4, h5⟩ := hx
          exact ihd (n - j) (by omega) j h4 h5 rfl
        · exact ⟨i, h1, h2, fun j hj hjn => by
            cases hb : listed.getD j true with
            | true => rfl
            | false => exact absurd ⟨j, hj, hjn, hb⟩ hx⟩
    have hop : ∀ i, i < n → ∃ o, l[i]? = some o ∧ o.guard = none ∧ ∀ e ∈ o.after, Region.binds md e = true → e.on < i := by
      intro i hi
      have h1 := List.all_eq_true.1 hh i (List.mem_range.2 hi)
      cases ho : l[i]? with
      | none => rw [ho] at h1; cases h1
      | some o =>
        rw [ho] at h1
        simp only [Bool.and_eq_true] at h1
        refine ⟨o, rfl, by simpa using h1.1, fun e he hb => ?_⟩
        have h2 := Array.all_eq_true_iff_forall_mem.1 h1.2 e he
        rw [hb] at h2
        simpa using h2
    have hrd : ∀ t, t ∈ Region.ready md l.toArray (listed ++ Array.replicate m false) → t < n ∧ t ∈ Region.ready md (l.take n).toArray listed := by
      intro t hr
      obtain ⟨h1, o, ho, h2⟩ := mem_ready.1 hr
      have hol : l[t]? = some o := by simpa using ho
      have htl : t < l.length := (List.getElem?_eq_some_iff.1 hol).1
      rcases Nat.lt_trichotomy t n with h3 | h3 | h3
      · refine ⟨h3, mem_ready.2 ⟨by rw [gD_app hsz true h3] at h1; exact h1, o, by rw [List.getElem?_toArray, htk t h3]; exact hol, fun e he hb => ?_⟩⟩
        have h4 := h2 e he hb
        obtain ⟨o', ho', -, hdn⟩ := hop t h3
        rw [hol] at ho'; cases ho'
        rw [gD_app hsz false (by have := hdn e he hb; omega)] at h4
        exact h4
      · exfalso
        subst h3
        obtain ⟨i, g1, g2, g3⟩ := hmost
        obtain ⟨j, q1, q2, q3⟩ := hs i g1
        obtain ⟨oj, p1, e, p2, p3, p4⟩ := wfB_spec q3
        have hfi : listed.getD i false = false := by rw [gD_tf (by omega) false true]; exact g2
        by_cases hjt : j = t
        · subst hjt
          rw [hol] at p1; cases p1
          have := h2 e p2 p3
          rw [p4, gD_app hsz false g1, hfi] at this
          cases this
        · have hj : j < t := by omega
          have h5 := g3 j q1 hj
          have h6 := hcl j oj (by rw [htk j hj]; exact p1) (by rw [gD_tf (by omega) false true]; exact h5) e p2 p3
          rw [p4, hfi] at h6
          cases h6
      · exfalso
        obtain ⟨j, q1, q2, q3⟩ := ht t htl h3
        obtain ⟨ot, p1, e, p2, p3, p4⟩ := wfB_spec q3
        rw [hol] at p1; cases p1
        have := h2 e p2 p3
        rw [p4, gD_app2 hsz q1] at this
        cases this
    have hne : Region.ready md l.toArray (listed ++ Array.replicate m false) ≠ [] := by
      obtain ⟨i, g1, g2, g3⟩ := hleast
      obtain ⟨o, ho, -, hdn⟩ := hop i g1
      have : i ∈ Region.ready md l.toArray (listed ++ Array.replicate m false) := mem_ready.2 ⟨by rw [gD_app hsz true g1]; exact g2, o, by rw [List.getElem?_toArray]; exact ho, fun e he hb => by
        have h3 := hdn e he hb
        rw [gD_app hsz false (by omega), gD_tf (by omega) false true]
        exact g3 _ h3⟩
      intro h0; rw [h0] at this; cases this
    rw [show f + 1 + g = (f + g) + 1 by omega]
    refine ⟨fun h0 => absurd h0 hne, fun i hi => ?_⟩
    obtain ⟨hin, hir⟩ := hrd i hi
    obtain ⟨o, ho, hog, hdn⟩ := hop i hin
    have hq1 := h.2 i hir
    have hist : listed.getD i true = false := (mem_ready.1 hir).1
    have e1 : (listed ++ Array.replicate m false).setIfInBounds i true = listed.setIfInBounds i true ++ Array.replicate m false := by
      apply Array.ext'
      simp only [Array.toList_setIfInBounds, Array.toList_append]
      rw [List.set_append_left _ _ (by simpa using (by omega : i < listed.size))]
    have hK : ∀ a' w', C w' → wpAnyQ P md (l.take n).toArray C Qh f (listed.setIfInBounds i true) a' → wpAny P md l.toArray Q' (f + g) ((listed ++ Array.replicate m false).setIfInBounds i true) a' w' := by
      intro a' w' hw' h'
      rw [e1]
      refine ih _ a' w' (by simpa using hsz) ?_ ?_ hw' h'
      · have := cu_set listed.toList i (by
          have h1 : i < listed.size := by omega
          rw [Array.getElem?_toList, Array.getElem?_eq_getElem h1]
          simpa [Array.getD, h1] using hist)
        rw [Array.toList_setIfInBounds]; omega
      · intro j oj hj hl e he hb
        have hset : ∀ k, listed.getD k false = true → (listed.setIfInBounds i true).getD k false = true := by
          intro k hk
          by_cases hik : i = k
          · subst hik
            have h1 : i < listed.size := by omega
            simp [Array.getD, h1]
          · simp only [Array.getD_eq_getD_getElem?, Array.getElem?_setIfInBounds, if_neg hik] at hk ⊢
            exact hk
        by_cases hij : i = j
        · subst hij
          have hoj : oj = o := by
            rw [htk i hin, ho] at hj
            exact (Option.some.inj hj).symm
          subst hoj
          have := (mem_ready.1 hir).2
          obtain ⟨o2, ho2, hall⟩ := this
          have : o2 = oj := by
            rw [List.getElem?_toArray, htk i hin, ho] at ho2
            exact (Option.some.inj ho2).symm
          subst this
          exact hset _ (hall e he hb)
        · have hlj : listed.getD j false = true := by
            simp only [Array.getD_eq_getD_getElem?, Array.getElem?_setIfInBounds, if_neg hij] at hl ⊢
            exact hl
          exact hset _ (hcl j oj hj hlj e he hb)
    have hqw := wpOp_of_qOp (ops := (l.take n).toArray) (Q' := Q') hw hK hq1
    unfold wpOp at hqw ⊢
    have hi1 : (l.take n).toArray[i]? = some o := by rw [List.getElem?_toArray, htk i hin]; exact ho
    have hi2 : l.toArray[i]? = some o := by rw [List.getElem?_toArray]; exact ho
    rw [hi1] at hqw
    rw [hi2]
    have hw1 : ∀ y, Region.wanted o y = true := fun y => by unfold Region.wanted; rw [hog]
    simpa only [hw1, if_true] using hqw
/-- What stands behind the one operation. -/
def Rest (P : Program) (l : List Oper) (n : Nat) (Q : Exit → Act → World → Prop) (a : Act) (w : World) : Prop :=
  ∃ C : World → Prop, C w ∧ wpQuiet P l.toArray C (fun a' => ∀ w', C w' → Q .normal a' w') (l.drop (n + 1)) a
theorem wp_region_mid {id : Nat} {Q : Exit → Act → World → Prop} {a : Act} {w : World} {l : List Oper} (n : Nat) (hm : P.follows .mixedOrders = true) (hB : midB .any l n = true) (o : Oper) (ho : l[n]? = some o)
    (h : wpQuiet P (l.take n).toArray (fun W => ∃ x : Same w.drew, W = x.val) (fun a' => ∀ K : Act → World → Prop, (∀ a2 w2, Rest P l n Q a2 w2 → K a2 w2) → Oper.wp P o a' w.drew K Q) (l.take n) a) : (Code.region id l.toArray true).wp P Q a w := by
  simp only [midB, Bool.and_eq_true, decide_eq_true_eq] at hB
  obtain ⟨b1, b2, b3, b4, b5, b6, b7, b8, b9, b10⟩ := hB
  have hready : Region.ready .any l.toArray (Array.replicate n true ++ Array.replicate (l.length - n) false) = [n] := by simpa using b8
  have hog : o.guard = none := by rw [ho] at b9; simpa using b9
  refine wp_region_any hm ?_
  have hq : ∀ a w', (∃ x : Same w.drew, w' = x.val) → (∀ K : Act → World → Prop, (∀ a2 w2, Rest P l n Q a2 w2 → K a2 w2) → Oper.wp P o a w.drew K Q) →
      wpAny P .any l.toArray Q (l.length - n) (Array.replicate n true ++ Array.replicate (l.length - n) false) a w' := by
    rintro a w' ⟨x, rfl⟩ hk
    rw [x.h]
    obtain ⟨m, hm'⟩ : ∃ m, l.length - n = m + 1 := ⟨l.length - n - 1, by omega⟩
    have hm2 : l.length - (n + 1) = m := by omega
    rw [hm2] at b10
    have key : ∀ L, L = Array.replicate n true ++ Array.replicate (l.length - n) false → wpAny P .any l.toArray Q (m + 1) L a w.drew := by
      rintro L rfl
      refine ⟨(fun h0 => by rw [hready] at h0; cases h0), fun i hi => ?_⟩
      rw [hready] at hi
      have hin : i = n := by simpa using hi
      subst hin
      unfold wpOp
      rw [List.getElem?_toArray, ho]
      have hw1 : Region.wanted o (yielded l.toArray a.tmps) = true := by unfold Region.wanted; rw [hog]
      simp only [hw1, if_true]
      refine .inl (hk _ (fun a2 w2 hr => ?_))
      obtain ⟨C, hC, hr⟩ := hr
      refine wpAny_of_quiet (C := C) (Q := fun a' => ∀ w', C w' → Q .normal a' w') (fun _ w' hw' h => h w' hw') _ _ _ _ hC ?_
      have hlen : (l.drop (i + 1)).length = m := by rw [List.length_drop]; exact hm2
      have := wpAnyQ_lex (C := C) (md := .any) b1 (l.drop (i + 1)) (i + 1) ((Array.replicate i true ++ Array.replicate (l.length - i) false).setIfInBounds i true) a2 (fun j => by simp [List.getElem?_drop]) (by rw [hlen]; exact b10) hr
      rw [hlen] at this
      exact this
    rw [hm']
    have := key _ rfl
    rw [hm'] at this
    exact this
  have hlex := wpAnyQ_lex (C := fun W => ∃ x : Same w.drew, W = x.val) (md := .any) b2 (l.take n) 0 (Array.replicate n false) a (fun j => by simp) (by
    have : (l.take n).length = n := by rw [List.length_take]; omega
    rw [this]; exact b7) h
  have hlt : (l.take n).length = n := by rw [List.length_take]; omega
  rw [hlt] at hlex
  have hfin := head_any (Q' := Q) (g := l.length - n) (m := l.length - n) (by omega) (by omega) b4
    (fun i hi => by
      have h1 := List.all_eq_true.1 b5 i (List.mem_range.2 hi)
      obtain ⟨j, hj, hj2⟩ := List.any_eq_true.1 h1
      simp only [Bool.and_eq_true, decide_eq_true_eq] at hj2
      have hjl := List.mem_range.1 hj
      exact ⟨j, hj2.1, (by omega), hj2.2⟩)
    (fun t ht hnt => by
      have h1 := List.all_eq_true.1 b6 t (List.mem_range.2 ht)
      simp only [Bool.or_eq_true, decide_eq_true_eq] at h1
      rcases h1 with h1 | h1
      · omega
      · obtain ⟨j, hj, hj2⟩ := List.any_eq_true.1 h1
        simp only [Bool.and_eq_true, decide_eq_true_eq] at hj2
        exact ⟨j, hj2.1, List.mem_range.1 hj, hj2.2⟩)
    hq n (Array.replicate n false) a w.drew (by simp) (by rw [Array.toList_replicate, cu_rep]) (fun j oj _ hl => by
      exfalso
      rw [Array.getD_eq_getD_getElem?] at hl
      by_cases hjn : j < n <;> simp [hjn] at hl) ⟨⟨w.drew, rfl⟩, rfl⟩ hlex
  have e2 : Array.replicate n false ++ Array.replicate (l.length - n) false = Array.replicate l.length false := by
    rw [Array.replicate_append_replicate]; congr 1; omega
  rw [e2, show n + (l.length - n) = l.length by omega] at hfin
  exact hfin
end
end Go.Proofs.Ytpfhfmnlojigpaa
