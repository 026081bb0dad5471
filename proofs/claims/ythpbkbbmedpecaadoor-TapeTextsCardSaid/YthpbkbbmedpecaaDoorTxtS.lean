/- strings.Split at one byte as the walks use it. -/
import Derived.Test.YthpbkbbmedpecaaDoorTxtA
import Derived.Lib.SplitLaws
set_option linter.unusedSimpArgs false
set_option linter.unusedVariables false
namespace Go.Proofs.YthpbkbbmedpecaaDoor
open Go.RowKit

theorem splitK_words (m : UInt8) : ∀ (n : Nat) (b : List UInt8), b.length ≤ n → Lib.splitK [m] 0 (b.count m) b = words m b := by
  intro n
  induction n with
  | zero =>
    intro b hb
    have : b = [] := List.eq_nil_of_length_eq_zero (by omega)
    subst this
    rfl
  | succ n ih =>
    intro b hb
    by_cases h : m ∈ b
    · obtain ⟨h1, h2, h3⟩ := cutM_yes h
      have hlt := (cutM_len m b).2.2 h
      have hi := ih (cutM m b).2.1 (by omega)
      have hg := Lib.index_ge b [m]
      have h0 : 0 ≤ Lib.index b [m] := by
        rcases Int.lt_or_le (Lib.index b [m]) 0 with hneg | hpos
        · exfalso
          unfold cutM Lib.cut at h1
          rw [if_neg (by omega)] at h1
          exact absurd h1 (by simp)
        · exact hpos
      have hc : cutM m b = (b.take (Lib.index b [m]).toNat, b.drop ((Lib.index b [m]).toNat + 1), true) := by
        unfold cutM Lib.cut
        rw [if_pos h0]
        rfl
      have hcount : b.count m = (cutM m b).2.1.count m + 1 := by
        conv => lhs; rw [h3]
        rw [List.count_append, List.count_eq_zero_of_not_mem h2, List.count_cons_self]
        omega
      have hne : ¬ (Lib.index b [m] == -1) = true := by rw [beq_iff_eq]; omega
      rw [words_cut h, hcount, Lib.splitK, if_neg hne, ← hi]
      rw [hc]
      rfl
    · rw [List.count_eq_zero_of_not_mem h, words_no h]
      rfl
theorem splitB_words (m : UInt8) (b : List UInt8) : Lib.splitB ⟨#[m]⟩ 0 (Lib.countB ⟨b.toArray⟩ ⟨#[m]⟩) ⟨b.toArray⟩ = (words m b).map fun s => (⟨s.toArray⟩ : ByteArray) := by
  have h1 := Lib.splitB_data ⟨#[m]⟩ 0 (b.count m) ⟨b.toArray⟩
  have h2 : Lib.countB ⟨b.toArray⟩ ⟨#[m]⟩ = b.count m := Lib.count_one m b
  rw [h2]
  have h3 : (Lib.splitB ⟨#[m]⟩ 0 (b.count m) ⟨b.toArray⟩).map (·.data.toList) = words m b := h1.trans (splitK_words m b.length b (Nat.le_refl _))
  rw [← h3, List.map_map]
  conv => lhs; rw [← List.map_id (Lib.splitB ⟨#[m]⟩ 0 (b.count m) ⟨b.toArray⟩)]
  apply List.map_congr_left
  intro x _
  simp
theorem split_any (l : List UInt8) (m : UInt8) (w : World) (h : TabA w) (hl : l.length ≤ 4294967280) :
    Calls Tryd.prog 16 #[.string ⟨l.toArray⟩, .string ⟨#[m]⟩] w fun e w' => (∃ v, e = .returned v ∧ w'.ownsRow w.heap.size 9 1 v (words m l).length (bcel (words m l))) ∧ Below w.heap.size w w' := by
  obtain ⟨k, hk⟩ := h.2.1
  refine (Tryd.strings_Split ⟨l.toArray⟩ ⟨#[m]⟩ k w (by show l.length < _; omega) hk (by show 1 ≤ 1; omega)).mono ?_
  rintro e w' ⟨rfl, rfl⟩
  have hs := splitB_words m l
  have hcl : Lib.countB ⟨l.toArray⟩ ⟨#[m]⟩ + 1 = (words m l).length := by
    have := Lib.splitB_all ⟨#[m]⟩ (by show 1 ≤ 1; omega) 0 _ ⟨l.toArray⟩ rfl
    rw [hs, List.length_map] at this
    exact this.symm
  have hwl : (words m l).length ≤ l.length + 1 := wordsA_len m l []
  have hc : ((words m l).map fun s => (⟨s.toArray⟩ : ByteArray)).map Value.string = bcel (words m l) := by
    unfold bcel
    rw [List.map_map]
    rfl
  rw [hs, hc, hcl]
  refine ⟨⟨_, rfl, ?_, ?_⟩, (Below.refl _ _).alloc (Nat.le_refl _) _⟩
  · rw [bcel_len]; omega
  · right
    refine ⟨w.heap.size, (words m l).length, (bcel (words m l)).toArray, rfl, Nat.le_refl _, ?_, Nat.le_refl _, by unfold maxLen; omega, ?_, ?_⟩
    · show (w.heap.push _)[w.heap.size]? = _
      rw [Array.getElem?_push_size]
    · simp [bcel_len]
    · rw [List.toList_toArray, List.take_of_length_le (by rw [bcel_len]; omega)]
end Go.Proofs.YthpbkbbmedpecaaDoor
