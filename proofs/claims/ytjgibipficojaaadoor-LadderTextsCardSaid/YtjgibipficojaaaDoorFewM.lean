/- The search for the next dog over the sound joints: plain. -/
import Derived.Test.YtjgibipficojaaaDoorCntM
set_option linter.unusedSimpArgs false
set_option linter.unusedVariables false
namespace Go.Proofs.YtjgibipficojaaaDoor
open Go.RowKit

theorem mem_sndL {l : List J} {n k : Nat} : k ∈ sndL l n ↔ k < n ∧ sndB l k = true := by simp [sndL]
theorem sndL_pair (l : List J) (n : Nat) : (sndL l n).Pairwise (· < ·) := List.Pairwise.filter _ (List.pairwise_lt_range)
theorem sndL_len (l : List J) (n : Nat) : (sndL l n).length ≤ n := by
  have := List.length_filter_le (sndB l) (List.range n)
  simpa [sndL] using this
theorem sndL_lt {l : List J} {n r K q : Nat} (hr : (sndL l n)[r]? = some K) (hq : q ∈ (sndL l n).take r) : q < K := by
  have hlt : r < (sndL l n).length := (List.getElem?_eq_some_iff.1 hr).1
  have hK : (sndL l n)[r] = K := (List.getElem?_eq_some_iff.1 hr).2
  have hpw := sndL_pair l n
  have hsplit : sndL l n = (sndL l n).take r ++ K :: (sndL l n).drop (r + 1) := by
    have h1 := (List.take_append_drop r (sndL l n)).symm
    rw [List.drop_eq_getElem_cons hlt, hK] at h1
    exact h1
  rw [hsplit] at hpw
  exact (List.pairwise_append.1 hpw).2.2 q hq K (by simp)
theorem sndL_take_iff {l : List J} {n r K : Nat} (hr : (sndL l n)[r]? = some K) (q : Nat) : q ∈ (sndL l n).take (r + 1) ↔ q ∈ (sndL l n).take r ∨ q = K := by
  have hlt := (List.getElem?_eq_some_iff.1 hr).1
  have hK := (List.getElem?_eq_some_iff.1 hr).2
  rw [List.take_succ_eq_append_getElem hlt, hK]
  simp
/-- How the search stands behind r of the sound joints. -/
def PickAt (c : Clb) (l : List J) (a : Int) (r : Nat) (b : Int) : Prop := Pick (fun q => q ∈ (sndL l l.length).take r ∧ folB c l a q = true) (need c l) b
theorem PickAt.start (c : Clb) (l : List J) (a : Int) : PickAt c l a 0 (-1) := Pick.none fun q hq => by simp at hq
theorem PickAt.bd {c : Clb} {l : List J} {a : Int} {r : Nat} {b : Int} (h : PickAt c l a r b) : b = -1 ∨ (0 ≤ b ∧ b < l.length) := by
  rcases h with ⟨h1, _⟩ | ⟨i, rfl, h2, h3, _⟩
  · exact .inl h1
  · have := need_snd h3; exact .inr ⟨by omega, by omega⟩
theorem PickAt.skip {c : Clb} {l : List J} {a : Int} {r K : Nat} {b : Int} (h : PickAt c l a r b) (hr : (sndL l l.length)[r]? = some K) (hk : need c l K = 0 ∨ folB c l a K = false) : PickAt c l a (r + 1) b := by
  refine Pick.same h fun q hq => ?_
  rw [sndL_take_iff hr]
  constructor
  · rintro ⟨hq1 | rfl, hq2⟩
    · exact ⟨hq1, hq2⟩
    · rcases hk with hk | hk
      · omega
      · rw [hk] at hq2; cases hq2
  · rintro ⟨hq1, hq2⟩; exact ⟨.inl hq1, hq2⟩
theorem PickAt.iff {c : Clb} {l : List J} {a : Int} {r K : Nat} (hr : (sndL l l.length)[r]? = some K) (ha : folB c l a K = true) (q : Nat) : (q ∈ (sndL l l.length).take (r + 1) ∧ folB c l a q = true) ↔ (q ∈ (sndL l l.length).take r ∧ folB c l a q = true) ∨ q = K := by
  rw [sndL_take_iff hr]
  constructor
  · rintro ⟨hq1 | rfl, hq2⟩
    · exact .inl ⟨hq1, hq2⟩
    · exact .inr rfl
  · rintro (⟨hq1, hq2⟩ | rfl)
    · exact ⟨.inl hq1, hq2⟩
    · exact ⟨.inr rfl, ha⟩
theorem PickAt.low {c : Clb} {l : List J} {a : Int} {r K : Nat} {b : Int} (h : PickAt c l a r b) (hr : (sndL l l.length)[r]? = some K) (hn : 0 < need c l K) (ha : folB c l a K = true) (hl : b < 0 ∨ need c l K < need c l b.toNat) : PickAt c l a (r + 1) K :=
  Pick.low h (PickAt.iff hr ha) hn hl
theorem PickAt.stay {c : Clb} {l : List J} {a : Int} {r K : Nat} {b : Int} (h : PickAt c l a r b) (hr : (sndL l l.length)[r]? = some K) (ha : folB c l a K = true) (hl : 0 ≤ b ∧ ¬ need c l K < need c l b.toNat) : PickAt c l a (r + 1) b :=
  Pick.stay h (PickAt.iff hr ha) (fun q hq => sndL_lt hr hq.1) (.inr hl)
theorem PickAt.done {c : Clb} {l : List J} {a : Int} {b : Int} (h : PickAt c l a (sndL l l.length).length b) : b = nxt c l a := by
  refine Pick.unique ?_ (nxt_spec c l a)
  refine Pick.same h fun q hq => ?_
  rw [List.take_length, mem_sndL]
  have := need_snd hq
  exact ⟨fun hh => ⟨⟨hh.1, this.2⟩, hh.2⟩, fun hh => ⟨this.1, hh.2⟩⟩
/-- Where the search for the fewest stands: some dogs, the last of them; whether it goes on. -/
def FewHead (c : Clb) (l : List J) (out : List Int) (a : Int) : Prop :=
  (out.length : Int) ≤ a + 1 ∧ -1 ≤ a ∧ a < l.length ∧ ((∃ f, FewAt c l out f a) ∧ ((out = [] ∧ a = -1) ∨ (out ≠ [] ∧ 0 ≤ a ∧ 1 < need c l a.toNat)) ∨ (out ≠ [] ∧ 0 ≤ a ∧ need c l a.toNat = 1 ∧ few c l = some out))
theorem FewHead.start (c : Clb) (l : List J) : FewHead c l [] (-1) := ⟨by simp, by omega, by omega, .inl ⟨⟨_, FewAt.start c l⟩, .inl ⟨rfl, rfl⟩⟩⟩
theorem FewHead.next {c : Clb} {l : List J} {out : List Int} {a : Int} (h : FewHead c l out a) (hf : ∃ f, FewAt c l out f a) (hn : ¬ nxt c l a < 0) : FewHead c l (out ++ [nxt c l a]) (nxt c l a) ∧ a < nxt c l a ∧ 0 < need c l (nxt c l a).toNat := by
  obtain ⟨h1, h2, h3, _⟩ := h
  obtain ⟨f, hf⟩ := hf
  have hb := nxt_bd hn h2
  refine ⟨⟨by rw [List.length_append]; simp; omega, by omega, hb.2.1, ?_⟩, hb.1, hb.2.2.1⟩
  by_cases h1 : need c l (nxt c l a).toNat = 1
  · exact .inr ⟨by simp, by omega, h1, hf.last hn h1⟩
  · obtain ⟨g, hg⟩ := hf.next hn h1
    exact .inl ⟨⟨g, hg⟩, .inr ⟨by simp, by omega, by omega⟩⟩
end Go.Proofs.YtjgibipficojaaaDoor
