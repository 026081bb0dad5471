/- The fewest dogs: how many are needed from a joint on; the first of the shortest lists: plain. No program is named. -/
import Derived.Test.YtjgibipficojaaaDoorJoint
set_option linter.unusedSimpArgs false
set_option linter.unusedVariables false
namespace Go.Proofs.YtjgibipficojaaaDoor
open Go.RowKit

/-- a is one more than the least of the N k that are above 0, over the k with P; 0 if there are none. -/
def MinS (P : Nat → Prop) (N : Nat → Nat) (a : Nat) : Prop := (a = 0 ∧ ∀ k, P k → N k = 0) ∨ (∃ k, P k ∧ 0 < N k ∧ a = N k + 1 ∧ ∀ q, P q → 0 < N q → N k ≤ N q)
theorem MinS.unique {P : Nat → Prop} {N : Nat → Nat} {a b : Nat} (h : MinS P N a) (k : MinS P N b) : a = b := by
  rcases h with ⟨h1, h2⟩ | ⟨i, h1, h2, h3, h4⟩ <;> rcases k with ⟨k1, k2⟩ | ⟨j, k1, k2, k3, k4⟩
  · omega
  · have := h2 j k1; omega
  · have := k2 i h1; omega
  · have := h4 j k1 k2; have := k4 i h1 h2; omega
theorem MinS.same {P P' : Nat → Prop} {N : Nat → Nat} {a : Nat} (h : MinS P N a) (hp : ∀ q, 0 < N q → (P' q ↔ P q)) : MinS P' N a := by
  rcases h with ⟨h1, h2⟩ | ⟨i, h1, h2, h3, h4⟩
  · refine .inl ⟨h1, fun k hk => ?_⟩
    rcases Nat.eq_zero_or_pos (N k) with h | h
    · exact h
    · exact h2 k ((hp k h).1 hk)
  · exact .inr ⟨i, (hp i h2).2 h1, h2, h3, fun q hq hn => h4 q ((hp q hn).1 hq) hn⟩
theorem MinS.none {P : Nat → Prop} {N : Nat → Nat} (h : ∀ q, ¬ P q) : MinS P N 0 := .inl ⟨rfl, fun k hk => absurd hk (h k)⟩
theorem MinS.low {P P' : Nat → Prop} {N : Nat → Nat} {a k : Nat} (h : MinS P N a) (hp : ∀ q, P' q ↔ P q ∨ q = k) (hk : 0 < N k) (hl : a = 0 ∨ N k + 1 < a) : MinS P' N (N k + 1) := by
  refine .inr ⟨k, (hp k).2 (.inr rfl), hk, rfl, fun q hq hn => ?_⟩
  rcases (hp q).1 hq with hq | rfl
  · rcases h with ⟨h1, h2⟩ | ⟨i, h1, h2, h3, h4⟩
    · have := h2 q hq; omega
    · have := h4 q hq hn; omega
  · omega
theorem MinS.stay {P P' : Nat → Prop} {N : Nat → Nat} {a k : Nat} (h : MinS P N a) (hp : ∀ q, P' q ↔ P q ∨ q = k) (hl : N k = 0 ∨ (a ≠ 0 ∧ ¬ N k + 1 < a)) : MinS P' N a := by
  rcases h with ⟨h1, h2⟩ | ⟨i, h1, h2, h3, h4⟩
  · refine .inl ⟨h1, fun q hq => ?_⟩
    rcases (hp q).1 hq with hq | rfl
    · exact h2 q hq
    · omega
  · refine .inr ⟨i, (hp i).2 (.inl h1), h2, h3, fun q hq hn => ?_⟩
    rcases (hp q).1 hq with hq | rfl
    · exact h4 q hq hn
    · omega

def bestL (ga h : Int) : List (J × Nat) → Nat
  | [] => 0
  | p :: ps => if p.1.1 - h ≤ ga ∧ 0 < p.2 ∧ (bestL ga h ps = 0 ∨ p.2 + 1 < bestL ga h ps) then p.2 + 1 else bestL ga h ps
theorem bestL_spec (ga h : Int) (x : J × Nat) : ∀ ps : List (J × Nat), MinS (fun k => k < ps.length ∧ (ps[k]?.getD x).1.1 - h ≤ ga) (fun k => (ps[k]?.getD x).2) (bestL ga h ps) := by
  intro ps
  induction ps with
  | nil => exact MinS.none fun q hq => by simp at hq
  | cons p ps ih =>
    have ih' : MinS (fun k => (0 < k ∧ k < (p :: ps).length) ∧ ((p :: ps)[k]?.getD x).1.1 - h ≤ ga) (fun k => ((p :: ps)[k]?.getD x).2) (bestL ga h ps) := by
      rcases ih with ⟨h1, h2⟩ | ⟨i, h1, h2, h3, h4⟩
      · refine .inl ⟨h1, fun k hk => ?_⟩
        obtain ⟨j, rfl⟩ : ∃ j, k = j + 1 := ⟨k - 1, by omega⟩
        simp only [List.getElem?_cons_succ, List.length_cons] at hk ⊢
        exact h2 j ⟨by omega, hk.2⟩
      · refine .inr ⟨i + 1, ⟨⟨by omega, by simp; exact h1.1⟩, by simpa using h1.2⟩, by simpa using h2, by simpa using h3, fun q hq hn => ?_⟩
        obtain ⟨j, rfl⟩ : ∃ j, q = j + 1 := ⟨q - 1, by omega⟩
        simp only [List.getElem?_cons_succ, List.length_cons] at hq hn ⊢
        exact h4 j ⟨by omega, hq.2⟩ hn
    by_cases hok : p.1.1 - h ≤ ga
    · have hp : ∀ q, (q < (p :: ps).length ∧ ((p :: ps)[q]?.getD x).1.1 - h ≤ ga) ↔ ((0 < q ∧ q < (p :: ps).length) ∧ ((p :: ps)[q]?.getD x).1.1 - h ≤ ga) ∨ q = 0 := by
        intro q
        constructor
        · intro hq
          rcases Nat.eq_zero_or_pos q with h0 | h0
          · exact .inr h0
          · exact .inl ⟨⟨h0, hq.1⟩, hq.2⟩
        · rintro (hq | rfl)
          · exact ⟨hq.1.2, hq.2⟩
          · exact ⟨by simp, by simpa using hok⟩
      show MinS _ _ (if _ then _ else _)
      by_cases hc : p.1.1 - h ≤ ga ∧ 0 < p.2 ∧ (bestL ga h ps = 0 ∨ p.2 + 1 < bestL ga h ps)
      · rw [if_pos hc]
        exact ih'.low (k := 0) hp (by simpa using hc.2.1) (by simpa using hc.2.2)
      · rw [if_neg hc]
        refine ih'.stay (k := 0) hp ?_
        simp only [List.getElem?_cons_zero, Option.getD_some]
        rcases Nat.eq_zero_or_pos p.2 with h0 | h0
        · exact .inl h0
        · right
          have : ¬ (bestL ga h ps = 0 ∨ p.2 + 1 < bestL ga h ps) := fun hh => hc ⟨hok, h0, hh⟩
          omega
    · show MinS _ _ (if _ then _ else _)
      rw [if_neg (fun hc => hok hc.1)]
      refine ih'.same fun q _ => ?_
      constructor
      · intro hq
        refine ⟨⟨?_, hq.1⟩, hq.2⟩
        rcases Nat.eq_zero_or_pos q with h0 | h0
        · subst h0; exact absurd (by simpa using hq.2) hok
        · exact h0
      · intro hq; exact ⟨hq.1.2, hq.2⟩

def needL (c : Clb) : List J → List Nat
  | [] => []
  | j :: r => (if j.2 then (if c.to ≤ j.1 + c.ga then 1 else bestL c.ga j.1 (r.zip (needL c r))) else 0) :: needL c r
/-- How many dogs are needed from a joint on, itself included; 0 if none do. -/
def need (c : Clb) (l : List J) (d : Nat) : Nat := (needL c l)[d]?.getD 0
theorem needL_len (c : Clb) : ∀ l : List J, (needL c l).length = l.length
  | [] => rfl
  | j :: r => by simp [needL, needL_len c r]
theorem need_out {c : Clb} {l : List J} {d : Nat} (h : l.length ≤ d) : need c l d = 0 := by
  unfold need
  rw [List.getElem?_eq_none (by rw [needL_len]; exact h)]; rfl
theorem need_succ (c : Clb) (j : J) (r : List J) (d : Nat) : need c (j :: r) (d + 1) = need c r d := by simp [need, needL]
theorem hgt_succ (j : J) (r : List J) (d : Nat) : hgt (j :: r) (d + 1) = hgt r d := by simp [hgt]
theorem sndB_succ (j : J) (r : List J) (d : Nat) : sndB (j :: r) (d + 1) = sndB r d := by simp [sndB]
theorem need_spec (c : Clb) : ∀ (l : List J) (d : Nat), d < l.length → (sndB l d = false → need c l d = 0) ∧ (sndB l d = true → c.to ≤ hgt l d + c.ga → need c l d = 1) ∧
    (sndB l d = true → ¬ c.to ≤ hgt l d + c.ga → MinS (fun k => d < k ∧ k < l.length ∧ hgt l k - hgt l d ≤ c.ga) (need c l) (need c l d)) := by
  intro l
  induction l with
  | nil => intro d h; exact absurd h (by simp)
  | cons j r ih =>
    intro d h
    cases d with
    | zero =>
      have e1 : sndB (j :: r) 0 = j.2 := rfl
      have e2 : hgt (j :: r) 0 = j.1 := rfl
      have e3 : need c (j :: r) 0 = if j.2 then (if c.to ≤ j.1 + c.ga then 1 else bestL c.ga j.1 (r.zip (needL c r))) else 0 := rfl
      rw [e1, e2, e3]
      refine ⟨fun h1 => by rw [h1]; rfl, fun h1 h2 => by rw [h1, if_pos rfl, if_pos h2], fun h1 h2 => ?_⟩
      rw [h1, if_pos rfl, if_neg h2]
      have hb := bestL_spec c.ga j.1 (dJ, 0) (r.zip (needL c r))
      have hz : (r.zip (needL c r)).length = r.length := by rw [List.length_zip, needL_len, Nat.min_self]
      have hg : ∀ k, k < r.length → (r.zip (needL c r))[k]?.getD (dJ, 0) = (r[k]?.getD dJ, need c r k) := by
        intro k hk
        have h2 : k < (needL c r).length := by rw [needL_len]; exact hk
        rw [List.getElem?_eq_getElem (by rw [hz]; exact hk), List.getElem_zip, need, List.getElem?_eq_getElem hk, List.getElem?_eq_getElem h2]; rfl
      rcases hb with ⟨k1, k2⟩ | ⟨i, k1, k2, k3, k4⟩
      · refine .inl ⟨k1, fun k hk => ?_⟩
        obtain ⟨q, rfl⟩ : ∃ q, k = q + 1 := ⟨k - 1, by omega⟩
        rw [hgt_succ, List.length_cons] at hk
        have hq : q < r.length := by omega
        have := k2 q ⟨by rw [hz]; exact hq, by rw [hg q hq]; exact hk.2.2⟩
        dsimp only at this
        rw [hg q hq] at this
        rw [need_succ]; exact this
      · have hi : i < r.length := by rw [← hz]; exact k1.1
        dsimp only at k1 k2 k3 k4
        rw [hg i hi] at k1 k2 k3
        refine .inr ⟨i + 1, ⟨by omega, by rw [List.length_cons]; omega, by rw [hgt_succ]; exact k1.2⟩, by rw [need_succ]; exact k2, by rw [need_succ]; exact k3, fun q hq hn => ?_⟩
        obtain ⟨p, rfl⟩ : ∃ p, q = p + 1 := ⟨q - 1, by omega⟩
        rw [hgt_succ, List.length_cons] at hq
        rw [need_succ] at hn ⊢
        rw [need_succ]
        have hp : p < r.length := by omega
        have := k4 p ⟨by rw [hz]; exact hp, by rw [hg p hp]; exact hq.2.2⟩ (by rw [hg p hp]; exact hn)
        rw [hg i hi, hg p hp] at this
        exact this
    | succ d =>
      have hd : d < r.length := by simpa using h
      obtain ⟨i1, i2, i3⟩ := ih d hd
      rw [sndB_succ, hgt_succ, need_succ]
      refine ⟨i1, i2, fun h1 h2 => ?_⟩
      rcases i3 h1 h2 with ⟨k1, k2⟩ | ⟨i, k1, k2, k3, k4⟩
      · refine .inl ⟨k1, fun k hk => ?_⟩
        obtain ⟨q, rfl⟩ : ∃ q, k = q + 1 := ⟨k - 1, by omega⟩
        rw [hgt_succ, List.length_cons] at hk
        rw [need_succ]
        exact k2 q ⟨by omega, by omega, hk.2.2⟩
      · refine .inr ⟨i + 1, ⟨by omega, by rw [List.length_cons]; omega, by rw [hgt_succ]; exact k1.2.2⟩, by rw [need_succ]; exact k2, by rw [need_succ]; exact k3, fun q hq hn => ?_⟩
        obtain ⟨p, rfl⟩ : ∃ p, q = p + 1 := ⟨q - 1, by omega⟩
        rw [hgt_succ, List.length_cons] at hq
        rw [need_succ] at hn ⊢
        rw [need_succ]
        exact k4 p ⟨by omega, by omega, hq.2.2⟩ hn
theorem need_le (c : Clb) (l : List J) : ∀ (m d : Nat), d + m = l.length → need c l d ≤ m := by
  intro m
  induction m using Nat.strongRecOn with
  | _ m ih =>
    intro d hd
    by_cases hlt : d < l.length
    · obtain ⟨h1, h2, h3⟩ := need_spec c l d hlt
      cases hs : sndB l d
      · have := h1 hs; omega
      · by_cases hl : c.to ≤ hgt l d + c.ga
        · have := h2 hs hl; omega
        · rcases h3 hs hl with ⟨k1, k2⟩ | ⟨i, ⟨i1, i2, i3⟩, k2, k3, k4⟩
          · omega
          · have := ih (l.length - i) (by omega) i (by omega); omega
    · rw [need_out (by omega)]; omega
theorem need_bd (c : Clb) (l : List J) (d : Nat) : need c l d ≤ l.length := by
  by_cases h : d < l.length
  · have := need_le c l (l.length - d) d (by omega); omega
  · rw [need_out (by omega)]; omega
theorem need_snd {c : Clb} {l : List J} {d : Nat} (h : 0 < need c l d) : d < l.length ∧ sndB l d = true := by
  by_cases hd : d < l.length
  · refine ⟨hd, ?_⟩
    cases hs : sndB l d
    · have := (need_spec c l d hd).1 hs; omega
    · rfl
  · rw [need_out (by omega)] at h; omega

/-! ### the first of the least -/
/-- b is the first place of those with P at which N is least above 0; -1 if there is none. -/
def Pick (P : Nat → Prop) (N : Nat → Nat) (b : Int) : Prop := (b = -1 ∧ ∀ k, P k → N k = 0) ∨ (∃ i : Nat, b = i ∧ P i ∧ 0 < N i ∧ (∀ q, P q → 0 < N q → N i ≤ N q) ∧ ∀ q, q < i → P q → 0 < N q → N i < N q)
theorem Pick.unique {P : Nat → Prop} {N : Nat → Nat} {a b : Int} (h : Pick P N a) (k : Pick P N b) : a = b := by
  rcases h with ⟨h1, h2⟩ | ⟨i, h1, h2, h3, h4, h5⟩ <;> rcases k with ⟨k1, k2⟩ | ⟨j, k1, k2, k3, k4, k5⟩
  · omega
  · have := h2 j k2; omega
  · have := k2 i h2; omega
  · rcases Nat.lt_trichotomy i j with hlt | heq | hlt
    · have := k5 i hlt h2 h3; have := h4 j k2 k3; omega
    · omega
    · have := h5 j hlt k2 k3; have := k4 i h2 h3; omega
theorem Pick.same {P P' : Nat → Prop} {N : Nat → Nat} {b : Int} (h : Pick P N b) (hp : ∀ q, 0 < N q → (P' q ↔ P q)) : Pick P' N b := by
  rcases h with ⟨h1, h2⟩ | ⟨i, h1, h2, h3, h4, h5⟩
  · refine .inl ⟨h1, fun k hk => ?_⟩
    rcases Nat.eq_zero_or_pos (N k) with h | h
    · exact h
    · exact h2 k ((hp k h).1 hk)
  · exact .inr ⟨i, h1, (hp i h3).2 h2, h3, fun q hq hn => h4 q ((hp q hn).1 hq) hn, fun q hl hq hn => h5 q hl ((hp q hn).1 hq) hn⟩
theorem Pick.none {P : Nat → Prop} {N : Nat → Nat} (h : ∀ q, ¬ P q) : Pick P N (-1) := .inl ⟨rfl, fun k hk => absurd hk (h k)⟩
theorem Pick.low {P P' : Nat → Prop} {N : Nat → Nat} {b : Int} {k : Nat} (h : Pick P N b) (hp : ∀ q, P' q ↔ P q ∨ q = k) (hk : 0 < N k) (hl : b < 0 ∨ N k < N b.toNat) : Pick P' N k := by
  rcases h with ⟨h1, h2⟩ | ⟨i, h1, h2, h3, h4, h5⟩
  · refine .inr ⟨k, rfl, (hp k).2 (.inr rfl), hk, fun q hq hn => ?_, fun q hlt hq hn => ?_⟩
    · rcases (hp q).1 hq with hq | rfl
      · have := h2 q hq; omega
      · omega
    · rcases (hp q).1 hq with hq | rfl
      · have := h2 q hq; omega
      · omega
  · have hl' : N k < N i := by
      rcases hl with hl | hl
      · omega
      · rw [h1] at hl; simpa using hl
    refine .inr ⟨k, rfl, (hp k).2 (.inr rfl), hk, fun q hq hn => ?_, fun q hlt hq hn => ?_⟩
    · rcases (hp q).1 hq with hq | rfl
      · have := h4 q hq hn; omega
      · omega
    · rcases (hp q).1 hq with hq | rfl
      · have := h4 q hq hn; omega
      · omega
theorem Pick.stay {P P' : Nat → Prop} {N : Nat → Nat} {b : Int} {k : Nat} (h : Pick P N b) (hp : ∀ q, P' q ↔ P q ∨ q = k) (hgt : ∀ q, P q → q < k) (hl : N k = 0 ∨ (0 ≤ b ∧ ¬ N k < N b.toNat)) : Pick P' N b := by
  rcases h with ⟨h1, h2⟩ | ⟨i, h1, h2, h3, h4, h5⟩
  · refine .inl ⟨h1, fun q hq => ?_⟩
    rcases (hp q).1 hq with hq | rfl
    · exact h2 q hq
    · omega
  · have hl' : N k = 0 ∨ ¬ N k < N i := by
      rcases hl with hl | hl
      · exact .inl hl
      · right; have := hl.2; rw [h1] at this; simpa using this
    refine .inr ⟨i, h1, (hp i).2 (.inl h2), h3, fun q hq hn => ?_, fun q hlt hq hn => ?_⟩
    · rcases (hp q).1 hq with hq | rfl
      · exact h4 q hq hn
      · omega
    · rcases (hp q).1 hq with hq | rfl
      · exact h5 q hlt hq hn
      · have := hgt i h2; omega
def pickC (N : Nat → Nat) (ok : Nat → Bool) : Nat → Int
  | 0 => -1
  | k + 1 => if ok k = true ∧ 0 < N k ∧ (pickC N ok k < 0 ∨ N k < N (pickC N ok k).toNat) then (k : Int) else pickC N ok k
theorem pickC_spec (N : Nat → Nat) (ok : Nat → Bool) : ∀ n, Pick (fun q => q < n ∧ ok q = true) N (pickC N ok n) := by
  intro n
  induction n with
  | zero => exact Pick.none fun q hq => by omega
  | succ n ih =>
    show Pick _ _ (if _ then _ else _)
    by_cases hok : ok n = true
    · have hp : ∀ q, (q < n + 1 ∧ ok q = true) ↔ (q < n ∧ ok q = true) ∨ q = n := by
        intro q
        constructor
        · intro hq
          by_cases h : q = n
          · exact .inr h
          · exact .inl ⟨by omega, hq.2⟩
        · rintro (hq | rfl)
          · exact ⟨by omega, hq.2⟩
          · exact ⟨by omega, hok⟩
      by_cases hc : ok n = true ∧ 0 < N n ∧ (pickC N ok n < 0 ∨ N n < N (pickC N ok n).toNat)
      · rw [if_pos hc]
        exact ih.low hp hc.2.1 hc.2.2
      · rw [if_neg hc]
        refine ih.stay hp (fun q hq => hq.1) ?_
        rcases Nat.eq_zero_or_pos (N n) with h0 | h0
        · exact .inl h0
        · right
          have : ¬ (pickC N ok n < 0 ∨ N n < N (pickC N ok n).toNat) := fun hh => hc ⟨hok, h0, hh⟩
          omega
    · rw [if_neg (fun hc => hok hc.1)]
      refine ih.same fun q _ => ?_
      constructor
      · intro hq
        refine ⟨?_, hq.2⟩
        by_cases h : q = n
        · subst h; exact absurd hq.2 hok
        · omega
      · intro hq; exact ⟨by omega, hq.2⟩
theorem Pick.bd {n : Nat} {ok : Nat → Bool} {N : Nat → Nat} {b : Int} (h : Pick (fun q => q < n ∧ ok q = true) N b) : b = -1 ∨ (0 ≤ b ∧ b < n ∧ ok b.toNat = true ∧ 0 < N b.toNat) := by
  rcases h with ⟨h1, _⟩ | ⟨i, rfl, h2, h3, _⟩
  · exact .inl h1
  · exact .inr ⟨by omega, by omega, by simpa using h2.2, by simpa using h3⟩

/-- Whether a dog may follow another one (below 0: the ground). -/
def folB (c : Clb) (l : List J) (b : Int) (d : Nat) : Bool := if b < 0 then decide (hgt l d ≤ c.fi) else decide (b < d) && decide (hgt l d - hI l b ≤ c.ga)
/-- The next dog behind one (-1: the ground). -/
def nxt (c : Clb) (l : List J) (a : Int) : Int := pickC (need c l) (folB c l a) l.length
def fewF (c : Clb) (l : List J) : Nat → Int → Option (List Int)
  | 0, _ => none
  | f + 1, a => if nxt c l a < 0 then none else if need c l (nxt c l a).toNat = 1 then some [nxt c l a] else (fewF c l f (nxt c l a)).map (nxt c l a :: ·)
def few (c : Clb) (l : List J) : Option (List Int) := fewF c l (l.length + 1) (-1)
theorem fewF_none {c : Clb} {l : List J} {f : Nat} {a : Int} (h : nxt c l a < 0) : fewF c l (f + 1) a = none := if_pos h
theorem fewF_one {c : Clb} {l : List J} {f : Nat} {a : Int} (h : ¬ nxt c l a < 0) (h1 : need c l (nxt c l a).toNat = 1) : fewF c l (f + 1) a = some [nxt c l a] := by
  show (if _ then _ else if _ then _ else _) = _
  rw [if_neg h, if_pos h1]
theorem fewF_more {c : Clb} {l : List J} {f : Nat} {a : Int} (h : ¬ nxt c l a < 0) (h1 : ¬ need c l (nxt c l a).toNat = 1) : fewF c l (f + 1) a = (fewF c l f (nxt c l a)).map (nxt c l a :: ·) := by
  show (if _ then _ else if _ then _ else _) = _
  rw [if_neg h, if_neg h1]
theorem nxt_spec (c : Clb) (l : List J) (a : Int) : Pick (fun q => q < l.length ∧ folB c l a q = true) (need c l) (nxt c l a) := pickC_spec _ _ _
/-- What is left behind some dogs, as the whole. -/
def FewAt (c : Clb) (l : List J) (out : List Int) (f : Nat) (a : Int) : Prop := few c l = (fewF c l f a).map (out ++ ·) ∧ -1 ≤ a ∧ a < l.length ∧ (l.length : Int) - a ≤ f
theorem FewAt.start (c : Clb) (l : List J) : FewAt c l [] (l.length + 1) (-1) := by
  refine ⟨?_, by omega, by omega, by omega⟩
  unfold few
  cases fewF c l (l.length + 1) (-1) <;> simp
theorem FewAt.nil {c : Clb} {l : List J} {out : List Int} {f : Nat} {a : Int} (h : FewAt c l out f a) (hn : nxt c l a < 0) : few c l = none := by
  obtain ⟨h1, h2, h3, h4⟩ := h
  obtain ⟨g, rfl⟩ : ∃ g, f = g + 1 := ⟨f - 1, by omega⟩
  rw [h1, fewF_none hn]; rfl
theorem FewAt.last {c : Clb} {l : List J} {out : List Int} {f : Nat} {a : Int} (h : FewAt c l out f a) (hn : ¬ nxt c l a < 0) (h1 : need c l (nxt c l a).toNat = 1) : few c l = some (out ++ [nxt c l a]) := by
  obtain ⟨h2, h3, h4, h5⟩ := h
  obtain ⟨g, rfl⟩ : ∃ g, f = g + 1 := ⟨f - 1, by omega⟩
  rw [h2, fewF_one hn h1]; rfl
theorem nxt_bd {c : Clb} {l : List J} {a : Int} (hn : ¬ nxt c l a < 0) (ha : -1 ≤ a) : a < nxt c l a ∧ nxt c l a < l.length ∧ 0 < need c l (nxt c l a).toNat ∧ folB c l a (nxt c l a).toNat = true := by
  rcases (nxt_spec c l a).bd with h | ⟨h1, h2, h3, h4⟩
  · omega
  · refine ⟨?_, h2, h4, h3⟩
    unfold folB at h3
    split at h3
    · omega
    · rw [Bool.and_eq_true, decide_eq_true_eq] at h3
      have := h3.1; omega
theorem FewAt.next {c : Clb} {l : List J} {out : List Int} {f : Nat} {a : Int} (h : FewAt c l out f a) (hn : ¬ nxt c l a < 0) (h1 : ¬ need c l (nxt c l a).toNat = 1) : ∃ g, FewAt c l (out ++ [nxt c l a]) g (nxt c l a) := by
  obtain ⟨h2, h3, h4, h5⟩ := h
  obtain ⟨g, rfl⟩ : ∃ g, f = g + 1 := ⟨f - 1, by omega⟩
  have hb := nxt_bd hn h3
  refine ⟨g, ?_, by omega, hb.2.1, by omega⟩
  rw [h2, fewF_more hn h1, Option.map_map]
  congr 1
  funext r
  simp
end Go.Proofs.YtjgibipficojaaaDoor
