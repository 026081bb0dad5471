/- Nets of tapes: the nodes that are joined to a node, by passes over all tapes: plain. No program is named. -/
import Derived.Test.YtloogollfconpaaNetE
set_option linter.unusedSimpArgs false
set_option linter.unusedVariables false
namespace Go.Proofs.Ytloogollfconpaa

def sB (S : List Bool) (x : Int) : Bool := S[x.toNat]?.getD false
def addT (S : List Bool) (t : Tp) : List Bool := if sB S t.1 || sB S t.2.1 then (S.set t.1.toNat true).set t.2.1.toNat true else S
def pass (l : List Tp) (S : List Bool) : List Bool := l.foldl addT S
def passes (l : List Tp) : Nat → List Bool → List Bool
  | 0, S => S
  | k + 1, S => pass l (passes l k S)
def part0 (n : Nat) (a : Int) : List Bool := (List.replicate n false).set a.toNat true
def partL (n : Nat) (l : List Tp) (a : Int) : List Bool := passes l n (part0 n a)
def inn (n : Nat) (l : List Tp) : Prop := ∀ t, t ∈ l → (0 ≤ t.1 ∧ t.1 < n) ∧ (0 ≤ t.2.1 ∧ t.2.1 < n)
theorem addT_len (S : List Bool) (t : Tp) : (addT S t).length = S.length := by unfold addT; split <;> simp
theorem pass_len (l : List Tp) : ∀ S : List Bool, (pass l S).length = S.length := by
  induction l with
  | nil => intro S; rfl
  | cons t l ih => intro S; show (pass l (addT S t)).length = _; rw [ih, addT_len]
theorem passes_len (l : List Tp) (S : List Bool) : ∀ k, (passes l k S).length = S.length := by
  intro k
  induction k with
  | zero => rfl
  | succ k ih => show (pass l (passes l k S)).length = _; rw [pass_len, ih]
theorem sB_set {S : List Bool} {x y : Int} (hy : 0 ≤ y) (hx : 0 ≤ x) (hl : x.toNat < S.length) : sB (S.set x.toNat true) y = (sB S y || decide (y = x)) := by
  unfold sB
  rw [List.getElem?_set]
  by_cases h : x.toNat = y.toNat
  · have : y = x := by omega
    subst this
    rw [if_pos rfl, if_pos hl]; simp
  · rw [if_neg h, decide_eq_false (by omega), Bool.or_false]
theorem sB_add {S : List Bool} {t : Tp} {y : Int} (hy : 0 ≤ y) (h1 : 0 ≤ t.1 ∧ t.1.toNat < S.length) (h2 : 0 ≤ t.2.1 ∧ t.2.1.toNat < S.length) : sB (addT S t) y = (sB S y || ((sB S t.1 || sB S t.2.1) && (decide (y = t.1) || decide (y = t.2.1)))) := by
  unfold addT
  cases h : (sB S t.1 || sB S t.2.1)
  · simp
  · rw [if_pos rfl, sB_set hy h2.1 (by simpa using h2.2), sB_set hy h1.1 h1.2]
    simp [Bool.or_assoc]
/-- How many are in. -/
def cin (S : List Bool) : Nat := (S.filter (fun b => b)).length
theorem cin_le (S : List Bool) : cin S ≤ S.length := List.length_filter_le ..
theorem cin_set : ∀ (S : List Bool) (i : Nat), cin S ≤ cin (S.set i true) ∧ (cin (S.set i true) = cin S → S.set i true = S) := by
  intro S
  induction S with
  | nil => intro i; exact ⟨Nat.le_refl _, fun _ => rfl⟩
  | cons b S ih =>
    intro i
    cases i with
    | zero => cases b <;> simp [cin]
    | succ i =>
      have := ih i
      cases b <;> simp [cin, List.filter_cons] at * <;> exact this
theorem cin_add (S : List Bool) (t : Tp) : cin S ≤ cin (addT S t) ∧ (cin (addT S t) = cin S → addT S t = S) := by
  unfold addT
  split
  · have h1 := cin_set S t.1.toNat
    have h2 := cin_set (S.set t.1.toNat true) t.2.1.toNat
    refine ⟨by omega, fun h => ?_⟩
    have e1 := h2.2 (by omega)
    rw [e1, h1.2 (by omega)]
  · exact ⟨Nat.le_refl _, fun _ => rfl⟩
theorem cin_pass (l : List Tp) : ∀ S : List Bool, cin S ≤ cin (pass l S) ∧ (cin (pass l S) = cin S → pass l S = S ∧ ∀ t, t ∈ l → addT S t = S) := by
  induction l with
  | nil => intro S; exact ⟨Nat.le_refl _, fun _ => ⟨rfl, fun t h => by cases h⟩⟩
  | cons t l ih =>
    intro S
    have h1 := cin_add S t
    have h2 := ih (addT S t)
    refine ⟨Nat.le_trans h1.1 h2.1, fun h => ?_⟩
    change cin (pass l (addT S t)) = _ at h
    have e1 := h1.2 (by omega)
    have e2 := h2.2 (by omega)
    rw [e1] at e2
    refine ⟨by show pass l (addT S t) = S; rw [e1]; exact e2.1, fun u hu => ?_⟩
    rcases List.mem_cons.1 hu with rfl | hu
    · exact e1
    · exact e2.2 u hu
theorem passes_cnt (l : List Tp) (S : List Bool) : ∀ k, cin S + k ≤ cin (passes l k S) ∨ ∀ t, t ∈ l → addT (passes l k S) t = passes l k S := by
  intro k
  induction k with
  | zero => exact .inl (Nat.le_refl _)
  | succ k ih =>
    have h := cin_pass l (passes l k S)
    by_cases he : cin (pass l (passes l k S)) = cin (passes l k S)
    · right
      obtain ⟨e1, e2⟩ := h.2 he
      show ∀ t, t ∈ l → addT (pass l (passes l k S)) t = pass l (passes l k S)
      rw [e1]; exact e2
    · rcases ih with ih | ih
      · left; show _ ≤ cin (pass l (passes l k S)); omega
      · exfalso
        have : pass l (passes l k S) = passes l k S := by
          have key : ∀ m : List Tp, (∀ t, t ∈ m → addT (passes l k S) t = passes l k S) → pass m (passes l k S) = passes l k S := by
            intro m
            induction m with
            | nil => intro _; rfl
            | cons t m ihm =>
              intro hm
              show pass m (addT (passes l k S) t) = _
              rw [hm t (List.mem_cons_self ..)]
              exact ihm (fun u hu => hm u (List.mem_cons_of_mem _ hu))
          exact key l ih
        exact he (by rw [this])
theorem sound_pass {l : List Tp} {R : List Int} {a : Int} {n : Nat} (hl : inn n l) (hR : ∀ t, t ∈ l → at6 R t.1 = at6 R t.2.1) : ∀ S : List Bool, S.length = n → (∀ x, 0 ≤ x → sB S x = true → at6 R x = at6 R a) → ∀ x, 0 ≤ x → sB (pass l S) x = true → at6 R x = at6 R a := by
  induction l with
  | nil => intro S _ h; exact h
  | cons t l ih =>
    intro S hS h
    obtain ⟨h1, h2⟩ := hl t (List.mem_cons_self ..)
    have ht := hR t (List.mem_cons_self ..)
    refine ih (fun u hu => hl u (List.mem_cons_of_mem _ hu)) (fun u hu => hR u (List.mem_cons_of_mem _ hu)) (addT S t) (by rw [addT_len]; exact hS) (fun x hx hs => ?_)
    rw [sB_add hx ⟨h1.1, by omega⟩ ⟨h2.1, by omega⟩] at hs
    simp only [Bool.or_eq_true, Bool.and_eq_true, decide_eq_true_eq] at hs
    rcases hs with hs | ⟨hs, hxe⟩
    · exact h x hx hs
    · have h3 : at6 R t.1 = at6 R a := by
        rcases hs with hs | hs
        · exact h _ h1.1 hs
        · rw [ht]; exact h _ h2.1 hs
      rcases hxe with rfl | rfl
      · exact h3
      · rw [← ht]; exact h3
theorem part_spec {n : Nat} {l : List Tp} {a : Int} (hok : okL l) (hl : inn n l) (hn : n ≤ 6) (ha : 0 ≤ a ∧ a < n) {x : Int} (hx : 0 ≤ x ∧ x < n) : sB (partL n l a) x = (at6 (full l R0) x == at6 (full l R0) a) := by
  have hR : ∀ t, t ∈ l → at6 (full l R0) t.1 = at6 (full l R0) t.2.1 := fun t ht => full_tape hok (r := R0) rfl t ht
  have h0 : ∀ y, 0 ≤ y → sB (part0 n a) y = true → at6 (full l R0) y = at6 (full l R0) a := by
    intro y hy hs
    unfold part0 at hs
    rw [sB_set hy ha.1 (by simp; omega)] at hs
    simp only [Bool.or_eq_true, decide_eq_true_eq] at hs
    rcases hs with hs | hs
    · exfalso
      unfold sB at hs
      rw [List.getElem?_replicate] at hs
      split at hs <;> simp at hs
    · rw [hs]
  have hlen : ∀ k, (passes l k (part0 n a)).length = n := fun k => by rw [passes_len]; unfold part0; simp
  have hsound : ∀ k y, 0 ≤ y → sB (passes l k (part0 n a)) y = true → at6 (full l R0) y = at6 (full l R0) a := by
    intro k
    induction k with
    | zero => exact h0
    | succ k ih => exact sound_pass hl hR _ (hlen k) ih
  have hmem : ∀ k, sB (passes l k (part0 n a)) a = true := by
    have hmono : ∀ (m : List Tp) (S : List Bool), inn n m → S.length = n → sB S a = true → sB (pass m S) a = true := by
      intro m
      induction m with
      | nil => intro S _ _ h; exact h
      | cons t m ihm =>
        intro S hm hS h
        obtain ⟨h1, h2⟩ := hm t (List.mem_cons_self ..)
        refine ihm (addT S t) (fun u hu => hm u (List.mem_cons_of_mem _ hu)) (by rw [addT_len]; exact hS) ?_
        rw [sB_add ha.1 ⟨h1.1, by omega⟩ ⟨h2.1, by omega⟩, h]; rfl
    intro k
    induction k with
    | zero =>
      show sB (part0 n a) a = true
      unfold part0
      rw [sB_set ha.1 ha.1 (by simp; omega)]; simp
    | succ k ih => exact hmono l _ hl (hlen k) ih
  have hstable : ∀ t, t ∈ l → addT (partL n l a) t = partL n l a := by
    rcases passes_cnt l (part0 n a) n with h | h
    · exfalso
      have h1 := cin_le (passes l n (part0 n a))
      rw [hlen n] at h1
      have h2 : 1 ≤ cin (part0 n a) := by
        have hz := hmem 0
        change sB (part0 n a) a = true at hz
        rcases Nat.eq_zero_or_pos (cin (part0 n a)) with hc | hc
        · exfalso
          unfold cin at hc
          have hnil := List.eq_nil_of_length_eq_zero hc
          unfold sB at hz
          cases hg : (part0 n a)[a.toNat]? with
          | none => rw [hg] at hz; cases hz
          | some b =>
            rw [hg] at hz
            have hb : b = true := hz
            subst hb
            have hin := List.mem_of_getElem? hg
            have : true ∈ (part0 n a).filter (fun b => b) := List.mem_filter.2 ⟨hin, rfl⟩
            rw [hnil] at this; cases this
        · exact hc
      omega
    · exact h
  rw [Bool.eq_iff_iff, beq_iff_eq]
  constructor
  · intro h; exact hsound n x hx.1 h
  · intro h
    have hends : ∀ t, t ∈ l → (fun y : Int => if sB (partL n l a) y = true then (1 : Int) else 0) t.1 = (fun y : Int => if sB (partL n l a) y = true then (1 : Int) else 0) t.2.1 := by
      intro t ht
      obtain ⟨h1, h2⟩ := hl t ht
      have hL : (partL n l a).length = n := hlen n
      have e := hstable t ht
      have e1 := sB_add (S := partL n l a) (t := t) h1.1 ⟨h1.1, by omega⟩ ⟨h2.1, by omega⟩
      have e2 := sB_add (S := partL n l a) (t := t) h2.1 ⟨h1.1, by omega⟩ ⟨h2.1, by omega⟩
      rw [e] at e1 e2
      simp only [decide_true, Bool.true_or, Bool.or_true, Bool.and_true] at e1 e2
      show (if sB (partL n l a) t.1 = true then (1 : Int) else 0) = if sB (partL n l a) t.2.1 = true then (1 : Int) else 0
      generalize sB (partL n l a) t.1 = p at e1 e2 ⊢
      generalize sB (partL n l a) t.2.1 = q at e1 e2 ⊢
      cases p <;> cases q <;> simp at e1 e2 ⊢
    have := full_inv (h := fun y : Int => if sB (partL n l a) y = true then (1 : Int) else 0) hok hends (r := R0) rfl (fun p q hp hq hpq => by rw [at6_R0 hp, at6_R0 hq] at hpq; rw [hpq]) x a ⟨hx.1, by omega⟩ ⟨ha.1, by omega⟩ h
    have hm : sB (partL n l a) a = true := hmem n
    rw [if_pos hm] at this
    by_cases hs : sB (partL n l a) x = true
    · exact hs
    · rw [if_neg hs] at this; omega
end Go.Proofs.Ytloogollfconpaa
