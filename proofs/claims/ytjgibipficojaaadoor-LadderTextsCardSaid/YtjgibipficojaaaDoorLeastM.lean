/- The fewest dogs are right, no right dogs are fewer, and none as few come before them: plain. -/
import Derived.Test.YtjgibipficojaaaDoorDogs3
set_option linter.unusedSimpArgs false
set_option linter.unusedVariables false
namespace Go.Proofs.YtjgibipficojaaaDoor
open Go.RowKit

/-- Right dogs behind one (-1: the ground). -/
def Path (c : Clb) (l : List J) : Int → List Nat → Prop
  | _, [] => False
  | a, [d] => d < l.length ∧ sndB l d = true ∧ folB c l a d = true ∧ c.to ≤ hgt l d + c.ga
  | a, d :: e :: r => d < l.length ∧ sndB l d = true ∧ folB c l a d = true ∧ Path c l d (e :: r)
theorem Path.head {c : Clb} {l : List J} {a : Int} {d : Nat} {r : List Nat} (h : Path c l a (d :: r)) : d < l.length ∧ sndB l d = true ∧ folB c l a d = true := by
  cases r with
  | nil => exact ⟨h.1, h.2.1, h.2.2.1⟩
  | cons e r => exact ⟨h.1, h.2.1, h.2.2.1⟩
theorem adj_of {c : Clb} {l : List J} {d e : Nat} (h : folB c l (d : Int) e = true) : d < e ∧ hgt l e - hgt l d ≤ c.ga := by
  rw [folB_nat, Bool.and_eq_true, decide_eq_true_eq, decide_eq_true_eq] at h; exact h
theorem Path.need {c : Clb} {l : List J} : ∀ (r : List Nat) (d : Nat) (a : Int), Path c l a (d :: r) → 0 < need c l d ∧ need c l d ≤ r.length + 1 := by
  intro r
  induction r with
  | nil =>
    intro d a h
    have := (need_spec c l d h.1).2.1 h.2.1 h.2.2.2
    rw [this]; exact ⟨by omega, by simp⟩
  | cons e r ih =>
    intro d a h
    obtain ⟨h1, h2, h3, h4⟩ := h
    have he := ih e d h4
    obtain ⟨k1, k2, k3⟩ := h4.head
    have ha := adj_of k3
    by_cases hl : c.to ≤ hgt l d + c.ga
    · have := (need_spec c l d h1).2.1 h2 hl
      rw [this]; exact ⟨by omega, by simp⟩
    · rcases (need_spec c l d h1).2.2 h2 hl with ⟨m1, m2⟩ | ⟨i, m1, m2, m3, m4⟩
      · have := m2 e ⟨ha.1, k1, ha.2⟩; omega
      · have := m4 e ⟨ha.1, k1, ha.2⟩ he.1
        rw [m3, List.length_cons]; exact ⟨by omega, by omega⟩
/-- From a joint that can be gone on from there is a way. -/
theorem way_of {c : Clb} {l : List J} : ∀ (m d : Nat), d + m = l.length → 0 < need c l d → ∀ a, folB c l a d = true → ∃ r, Path c l a (d :: r) := by
  intro m
  induction m using Nat.strongRecOn with
  | _ m ih =>
    intro d hd hn a ha
    obtain ⟨h1, h2⟩ := need_snd hn
    by_cases hl : c.to ≤ hgt l d + c.ga
    · exact ⟨[], h1, h2, ha, hl⟩
    · rcases (need_spec c l d h1).2.2 h2 hl with ⟨m1, m2⟩ | ⟨i, ⟨i1, i2, i3⟩, m2, m3, m4⟩
      · omega
      · obtain ⟨r, hr⟩ := ih (l.length - i) (by omega) i (by omega) m2 d (by rw [folB_nat, decide_eq_true i1, decide_eq_true i3]; rfl)
        exact ⟨i :: r, h1, h2, ha, hr⟩
theorem need_one {c : Clb} {l : List J} {d : Nat} (h : need c l d = 1) : c.to ≤ hgt l d + c.ga := by
  obtain ⟨h1, h2⟩ := need_snd (c := c) (l := l) (d := d) (by omega)
  by_cases hl : c.to ≤ hgt l d + c.ga
  · exact hl
  · rcases (need_spec c l d h1).2.2 h2 hl with ⟨m1, m2⟩ | ⟨i, _, m2, m3, m4⟩ <;> omega
theorem last_one {c : Clb} {l : List J} {d : Nat} (h : 0 < need c l d) (hl : c.to ≤ hgt l d + c.ga) : need c l d = 1 := by
  obtain ⟨h1, h2⟩ := need_snd h
  exact (need_spec c l d h1).2.1 h2 hl
/-- None of the same length comes before: at the first place at which they part the first is less. -/
def LexLe : List Nat → List Nat → Prop
  | a :: r, b :: s => a < b ∨ (a = b ∧ LexLe r s)
  | _, _ => True
/-- The best way behind a joint. -/
def Best (c : Clb) (l : List J) (a : Int) (ns : List Nat) : Prop := Path c l a ns ∧ ∀ ds, Path c l a ds → ns.length ≤ ds.length ∧ (ns.length = ds.length → LexLe ns ds)
theorem nxt_least {c : Clb} {l : List J} {a : Int} {d : Nat} (hd : d < l.length) (hf : folB c l a d = true) (hn : 0 < need c l d) :
    ∃ b : Nat, nxt c l a = b ∧ b < l.length ∧ folB c l a b = true ∧ 0 < need c l b ∧ (∀ q, q < l.length → folB c l a q = true → 0 < need c l q → need c l b ≤ need c l q) ∧ ∀ q, q < b → folB c l a q = true → 0 < need c l q → need c l b < need c l q := by
  rcases nxt_spec c l a with ⟨h1, h2⟩ | ⟨i, h1, h2, h3, h4, h5⟩
  · have := h2 d ⟨hd, hf⟩; omega
  · exact ⟨i, h1, h2.1, h2.2, h3, fun q hq hq2 hq3 => h4 q ⟨hq, hq2⟩ hq3, fun q hq hq2 hq3 => h5 q hq ⟨by omega, hq2⟩ hq3⟩
theorem fewF_best {c : Clb} {l : List J} : ∀ (f : Nat) (a : Int), -1 ≤ a → a < l.length → (l.length : Int) - a ≤ f → (∃ ds, Path c l a ds) → ∃ ns : List Nat, fewF c l f a = some (ns.map fun k : Nat => (k : Int)) ∧ Best c l a ns ∧ ns.length = need c l (nxt c l a).toNat := by
  intro f
  induction f with
  | zero => intro a h1 h2 h3; omega
  | succ f ih =>
    intro a h1 h2 h3 ⟨ds, hds⟩
    obtain ⟨d, r, rfl⟩ : ∃ d r, ds = d :: r := by
      cases ds with
      | nil => exact absurd hds id
      | cons d r => exact ⟨d, r, rfl⟩
    have hdh := hds.head
    have hdn := Path.need r d a hds
    obtain ⟨b, e1, e2, e3, e4, e5, e6⟩ := nxt_least hdh.1 hdh.2.2 hdn.1
    have hnb : ¬ nxt c l a < 0 := by rw [e1]; omega
    have hbt : (nxt c l a).toNat = b := by rw [e1]; simp
    have hab : a < b := by have := (nxt_bd hnb h1).1; omega
    have hlen : ∀ ds, Path c l a ds → need c l b ≤ ds.length := fun ds hp => by
      cases ds with
      | nil => exact absurd hp id
      | cons q s =>
        have hq := hp.head
        have hqn := Path.need s q a hp
        have := e5 q hq.1 hq.2.2 hqn.1
        rw [List.length_cons]; omega
    by_cases h1b : need c l b = 1
    · refine ⟨[b], by rw [fewF_one hnb (by rw [hbt]; exact h1b), e1]; rfl, ⟨⟨e2, (need_snd e4).2, e3, need_one h1b⟩, fun ds hp => ⟨by have := hlen ds hp; simpa [h1b] using this, fun hl => ?_⟩⟩, by rw [hbt, h1b]; rfl⟩
      cases ds with
      | nil => exact absurd hp id
      | cons q s =>
        have hs : s = [] := List.eq_nil_of_length_eq_zero (by simpa using hl.symm)
        subst hs
        have hq := hp.head
        have hqn := Path.need [] q a hp
        rcases Nat.lt_trichotomy b q with hlt | heq | hlt
        · exact .inl hlt
        · exact .inr ⟨heq, trivial⟩
        · have := e6 q hlt hq.2.2 hqn.1
          simp at hqn
          omega
    · have hnl : ¬ c.to ≤ hgt l b + c.ga := fun hl => h1b (last_one e4 hl)
      obtain ⟨r', hr'⟩ := way_of (c := c) (l := l) (l.length - b) b (by omega) e4 a e3
      have hex : ∃ ds, Path c l b ds := by
        cases r' with
        | nil => exact absurd hr'.2.2.2 hnl
        | cons e r' => exact ⟨e :: r', hr'.2.2.2⟩
      obtain ⟨ns, n1, n2, n3⟩ := ih b (by omega) (by omega) (by omega) hex
      have hpn := n2.1
      obtain ⟨x, s, rfl⟩ : ∃ x s, ns = x :: s := by
        cases ns with
        | nil => exact absurd hpn id
        | cons x s => exact ⟨x, s, rfl⟩
      have hbl : need c l b = (x :: s).length + 1 := by
        rw [n3]
        obtain ⟨y, s', hy⟩ : ∃ y s', Path c l b (y :: s') := ⟨x, s, hpn⟩
        have hyh := hy.head
        have hyn := Path.need s' y b hy
        obtain ⟨b', g1, g2, g3, g4, g5, g6⟩ := nxt_least hyh.1 hyh.2.2 hyn.1
        rw [g1, Int.toNat_natCast]
        refine MinS.unique ((need_spec c l b e2).2.2 (need_snd e4).2 hnl) ?_
        refine .inr ⟨b', ⟨(adj_of g3).1, g2, (adj_of g3).2⟩, g4, rfl, fun q hq hn => g5 q hq.2.1 (by rw [folB_nat, decide_eq_true hq.1, decide_eq_true hq.2.2]; rfl) hn⟩
      refine ⟨b :: x :: s, by rw [fewF_more hnb (by rw [hbt]; exact h1b), e1, n1]; rfl, ⟨⟨e2, (need_snd e4).2, e3, hpn⟩, fun ds hp => ⟨by have := hlen ds hp; simp only [List.length_cons] at *; omega, fun hl => ?_⟩⟩, by rw [hbt, hbl]; rfl⟩
      cases ds with
      | nil => exact absurd hp id
      | cons q t =>
        have hq := hp.head
        have hqn := Path.need t q a hp
        have hqb := e5 q hq.1 hq.2.2 hqn.1
        simp only [List.length_cons] at hl hbl
        rcases Nat.lt_trichotomy b q with hlt | heq | hlt
        · exact .inl hlt
        · refine .inr ⟨heq, ?_⟩
          cases t with
          | nil => simp at hl
          | cons y t =>
            have hpt : Path c l b (y :: t) := by rw [heq]; exact hp.2.2.2
            exact (n2.2 _ hpt).2 (by simp only [List.length_cons] at hl ⊢; omega)
        · have := e6 q hlt hq.2.2 hqn.1
          omega
theorem few_best {c : Clb} {l : List J} (h : ∃ ds, Path c l (-1) ds) : ∃ ns : List Nat, few c l = some (ns.map fun k : Nat => (k : Int)) ∧ Best c l (-1) ns := by
  obtain ⟨ds, hds⟩ := h
  have hl : 0 < l.length := by
    cases ds with
    | nil => exact absurd hds id
    | cons d r => have := hds.head.1; omega
  obtain ⟨ns, h1, h2, _⟩ := fewF_best (c := c) (l := l) (l.length + 1) (-1) (by omega) (by omega) (by omega) ⟨ds, hds⟩
  exact ⟨ns, h1, h2⟩
/-- There are dogs only where there is a way. -/
theorem few_path {c : Clb} {l : List J} (h : (few c l).isSome = true) : ∃ ds, Path c l (-1) ds := by
  unfold few at h
  have hn : ¬ nxt c l (-1) < 0 := by
    intro hn
    rw [fewF_none hn] at h; cases h
  have hb := nxt_bd hn (by omega)
  obtain ⟨r, hr⟩ := way_of (c := c) (l := l) (l.length - (nxt c l (-1)).toNat) (nxt c l (-1)).toNat (by omega) hb.2.2.1 (-1) hb.2.2.2
  exact ⟨_, hr⟩
theorem few_iff {c : Clb} {l : List J} : (few c l).isSome = true ↔ ∃ ds, Path c l (-1) ds := by
  constructor
  · exact few_path
  · intro h
    obtain ⟨ns, h1, _⟩ := few_best h
    rw [h1]; rfl

/-! ### rightB and ways -/
def prev (a : Int) (ns : List Nat) (k : Nat) : Int := if k = 0 then a else ((ns[k-1]?.getD 0 : Nat) : Int)
def IdxPath (c : Clb) (l : List J) (a : Int) (ns : List Nat) : Prop := ns ≠ [] ∧ (∀ k, k < ns.length → ns[k]?.getD 0 < l.length ∧ sndB l (ns[k]?.getD 0) = true ∧ folB c l (prev a ns k) (ns[k]?.getD 0) = true) ∧ c.to ≤ hgt l (ns[ns.length - 1]?.getD 0) + c.ga
theorem path_idx {c : Clb} {l : List J} : ∀ (ns : List Nat) (a : Int), Path c l a ns ↔ IdxPath c l a ns := by
  intro ns
  induction ns with
  | nil => intro a; exact ⟨fun h => absurd h id, fun h => absurd rfl h.1⟩
  | cons d r ih =>
    intro a
    cases r with
    | nil =>
      constructor
      · rintro ⟨h1, h2, h3, h4⟩
        refine ⟨by simp, fun k hk => ?_, h4⟩
        have : k = 0 := by simpa using hk
        subst this
        exact ⟨h1, h2, h3⟩
      · rintro ⟨_, h2, h3⟩
        have := h2 0 (by simp)
        exact ⟨this.1, this.2.1, this.2.2, h3⟩
    | cons e r =>
      have hi := ih d
      constructor
      · rintro ⟨h1, h2, h3, h4⟩
        obtain ⟨_, k2, k3⟩ := hi.1 h4
        refine ⟨by simp, fun k hk => ?_, by simpa using k3⟩
        cases k with
        | zero => exact ⟨h1, h2, h3⟩
        | succ k =>
          have := k2 k (by simpa using hk)
          refine ⟨by simpa using this.1, by simpa using this.2.1, ?_⟩
          have h5 := this.2.2
          cases k with
          | zero => simpa [prev] using h5
          | succ k => simpa [prev] using h5
      · rintro ⟨_, h2, h3⟩
        have h0 := h2 0 (by simp)
        refine ⟨h0.1, h0.2.1, h0.2.2, hi.2 ⟨by simp, fun k hk => ?_, by simpa using h3⟩⟩
        have := h2 (k + 1) (by simpa using hk)
        refine ⟨by simpa using this.1, by simpa using this.2.1, ?_⟩
        have h5 := this.2.2
        cases k with
        | zero => simpa [prev] using h5
        | succ k => simpa [prev] using h5
theorem num_cast {ns : List Nat} {k : Nat} (h : k < ns.length) : num (ns.map fun k : Nat => (k : Int)) k = ((ns[k]?.getD 0 : Nat) : Int) := by
  simp [num, List.getElem?_map, List.getElem?_eq_getElem h]
theorem right_path {c : Clb} {l : List J} {ns : List Nat} : rightB c l (ns.map fun k : Nat => (k : Int)) = true ↔ (vC c && vJ l) = true ∧ Path c l (-1) ns := by
  rw [path_idx]
  have hll : (ns.map fun k : Nat => (k : Int)).length = ns.length := by simp
  constructor
  · intro h
    simp only [rightB, right1, Bool.and_eq_true] at h
    obtain ⟨h1, h2, h3, h4, h5⟩ := h
    have has := ascB_spec h3
    rw [hll] at has h4
    have hne : ns ≠ [] := by rintro rfl; simp at h2
    have hpos : 0 < ns.length := by cases ns with
      | nil => exact absurd rfl hne
      | cons _ _ => simp
    refine ⟨by rw [Bool.and_eq_true]; exact h1, hne, fun k hk => ?_, ?_⟩
    · have hr := has.1 k hk
      rw [num_cast hk] at hr
      have hst := List.all_eq_true.1 h4 k (List.mem_range.2 hk)
      have hsf := stepX_fol (c := c) (l := l) (num_cast hk) (fun h0 => ⟨(has.1 (k-1) (by omega)).1, has.2 (k-1) k (by omega) hk⟩)
      rw [hsf, Bool.and_eq_true] at hst
      refine ⟨by omega, hst.1, ?_⟩
      have hpv : before (ns.map fun k : Nat => (k : Int)) k = prev (-1) ns k := by
        unfold before prev
        split
        · rfl
        · rw [num_cast (by omega)]
      rw [← hpv]; exact hst.2
    · unfold lastB at h5
      rw [decide_eq_true_eq, hll, num_cast (by omega), hI_nat] at h5
      exact h5
  · rintro ⟨h1, hne, h2, h3⟩
    have hpos : 0 < ns.length := by cases ns with
      | nil => exact absurd rfl hne
      | cons _ _ => simp
    have hasc : ∀ k, 0 < k → k < ns.length → num (ns.map fun k : Nat => (k : Int)) (k - 1) < num (ns.map fun k : Nat => (k : Int)) k := fun k h0 hk => by
      have := (h2 k hk).2.2
      unfold prev at this
      rw [if_neg (by omega)] at this
      have := (adj_of this).1
      rw [num_cast hk, num_cast (by omega)]
      omega
    have hax : ∀ k, k < ns.length → ascX l.length (ns.map fun k : Nat => (k : Int)) k = true := fun k hk => by
      unfold ascX
      rw [Bool.and_eq_true, Bool.or_eq_true]
      refine ⟨withinB_iff.2 ?_, ?_⟩
      · rw [num_cast hk]; have := (h2 k hk).1; omega
      · rcases Nat.eq_zero_or_pos k with h0 | h0
        · left; simpa using h0
        · right; exact decide_eq_true (hasc k h0 hk)
    have hbx : ∀ k, k < ns.length → stepX c l (ns.map fun k : Nat => (k : Int)) k = true := fun k hk => by
      have hsf := stepX_fol (c := c) (l := l) (num_cast hk) (fun h0 => ⟨by rw [num_cast (by omega)]; omega, hasc k h0 hk⟩)
      rw [hsf, Bool.and_eq_true]
      refine ⟨(h2 k hk).2.1, ?_⟩
      have hpv : before (ns.map fun k : Nat => (k : Int)) k = prev (-1) ns k := by
        unfold before prev
        split
        · rfl
        · rw [num_cast (by omega)]
      rw [hpv]; exact (h2 k hk).2.2
    simp only [rightB, right1, ascB, Bool.and_eq_true, List.all_eq_true]
    refine ⟨by rw [Bool.and_eq_true] at h1; exact h1, ?_, fun k hk => hax k (by rw [hll] at hk; exact List.mem_range.1 hk), fun k hk => hbx k (by rw [hll] at hk; exact List.mem_range.1 hk), ?_⟩
    · cases ns with
      | nil => exact absurd rfl hne
      | cons _ _ => rfl
    · unfold lastB
      rw [decide_eq_true_eq, hll, num_cast (by omega), hI_nat]
      exact h3
/-- Right dogs are numbers that are not below 0. -/
theorem right_nat {c : Clb} {l : List J} {ds : List Int} (h : rightB c l ds = true) : ∃ ns : List Nat, ds = ns.map fun k : Nat => (k : Int) := by
  simp only [rightB, Bool.and_eq_true] at h
  have has := ascB_spec h.2.2.1
  refine ⟨ds.map Int.toNat, ?_⟩
  rw [List.map_map]
  apply List.ext_getElem (by simp)
  intro k h1 h2
  have := (has.1 k h1).1
  simp only [num, List.getElem?_eq_getElem h1, Option.getD_some] at this
  simp only [List.getElem_map, Function.comp]
  omega
theorem lex_at : ∀ (a b : List Nat), LexLe a b → a.length = b.length → ∀ i, i < a.length → (∀ j, j < i → a[j]?.getD 0 = b[j]?.getD 0) → a[i]?.getD 0 ≤ b[i]?.getD 0 := by
  intro a
  induction a with
  | nil => intro b _ _ i hi; exact absurd hi (by simp)
  | cons x r ih =>
    intro b h hl i hi hj
    cases b with
    | nil => simp at hl
    | cons y s =>
      cases i with
      | zero =>
        simp only [List.getElem?_cons_zero, Option.getD_some]
        rcases h with h | h <;> omega
      | succ i =>
        have h0 := hj 0 (by omega)
        simp only [List.getElem?_cons_zero, Option.getD_some] at h0
        rcases h with h | ⟨_, h⟩
        · omega
        · have := ih s h (by simpa using hl) i (by simpa using hi) (fun j hjj => by simpa using hj (j + 1) (by omega))
          simpa using this
end Go.Proofs.YtjgibipficojaaaDoor
