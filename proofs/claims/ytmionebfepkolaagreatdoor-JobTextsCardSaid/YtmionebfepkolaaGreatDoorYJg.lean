/- Joined by merge.py from: Itoa1 TxtA TxtS. -/
import Derived.Test.YtmionebfepkolaaGreatDoorYJb
import Derived.Test.YtmionebfepkolaaGreatDoorShelf
import Derived.Lib.AppendIntMem
import Derived.Lib.AtoiErrMem
import Derived.Lib.SplitLaws
set_option linter.unusedSimpArgs false
set_option linter.unusedVariables false
namespace Go.Proofs.YtmionebfepkolaaGreatDoor
open Go.RowKit

/-- The library's table of powers of ten lies in w. -/
def Tab (w : World) : Prop := Lib.TabIs Tryz.prog w "internal/strconv.uint64pow10" .u64 Lib.pow10Tab
theorem Tab.below {w w' : World} (h : Tab w) (hb : Below w.heap.size w w') : Tab w' := Lib.tabBelow_of_tabIs h w' hb
theorem itoa_any (n : Int) (w : World) (h : Tab w) (h0 : -9223372036854775808 ≤ n) (h1 : n ≤ 9223372036854775807) :
    Calls Tryz.prog 20 #[.int .i64 n] w fun e w' => e = .returned (.string ⟨(Lib.itoa n).toArray⟩) ∧ Below w.heap.size w w' := by
  refine (Tryz.strconv_Itoa n h0 h1 w h).mono ?_
  rintro e w' ⟨rfl, k, os, rfl⟩
  exact ⟨rfl, Lib.below_grow _ w (Nat.le_refl _) k os⟩
theorem join_own {w : World} {base : Nat} {v : Value} {n : Nat} {ws : List (List UInt8)} (sep : List UInt8) (h : w.ownsRow base 9 1 v n (bcel ws)) (hN : ws.length ≤ 140737488355328) (hlen : (Lib.join ws sep).length ≤ 140737488355328) :
    Calls Tryz.prog 19 #[v, .string ⟨sep.toArray⟩] w fun e w' => e = .returned (.string ⟨(Lib.join ws sep).toArray⟩) ∧ Below w.heap.size w w' := by
  obtain ⟨hl, h0 | ⟨g, cap, rfl, hnc, hm, hb, hg, hc⟩⟩ := own_words h
  · obtain ⟨rfl, rfl⟩ := h0
    have : ws = [] := List.eq_nil_of_length_eq_zero hl
    subst this
    refine (Tryz.strings_Join_none none 0 ⟨sep.toArray⟩ w).mono ?_
    rintro e w' ⟨rfl, rfl⟩
    exact ⟨rfl, Below.refl _ _⟩
  · have hmap : (ws.map fun s => (⟨s.toArray⟩ : ByteArray)).map (·.data.toList) = ws := by
      rw [List.map_map]
      conv => rhs; rw [← List.map_id ws]
      apply List.map_congr_left
      intro x _
      simp
    have := Tryz.strings_Join g 0 cap (ws.map fun s => (⟨s.toArray⟩ : ByteArray)) ⟨sep.toArray⟩ w (by
      intro j x hj
      rw [List.getElem?_map, Option.map_eq_some_iff] at hj
      obtain ⟨s, hs, rfl⟩ := hj
      have hlt : j < ws.length := (List.getElem?_eq_some_iff.1 hs).1
      have := (hc j (by omega)).1
      rw [hs] at this
      rw [Nat.zero_add]
      exact this) hg (by rw [List.length_map]; exact hN) (by rw [List.length_map]; omega) (by rw [hmap]; exact hlen)
    rw [hmap, List.length_map, hl] at this
    exact this
end Go.Proofs.YtmionebfepkolaaGreatDoor

namespace Go.Proofs.YtmionebfepkolaaGreatDoor
open Go.RowKit

/-- What the walks ask of the library's variables. -/
def TabA (w : World) : Prop :=
  Tab w ∧ (∃ m, w.cell? ⟨0, 0, none⟩ = some (.int .i64 m)) ∧ (∃ te pe, w.cell? ⟨2, 0, none⟩ = some (.iface te pe)) ∧ ∃ te pe, w.cell? ⟨3, 0, none⟩ = some (.iface te pe)
theorem TabA.tab {w : World} (h : TabA w) : Tab w := h.1
theorem cell_kept {w w' : World} {a : Addr} {v : Value} (h : w.cell? a = some v) (hb : Below w.heap.size w w') : w'.cell? a = some v := by
  rw [hb.cell (World.block_lt_of_cell? _ _ h)]; exact h
theorem TabA.below {w w' : World} (h : TabA w) (hb : Below w.heap.size w w') : TabA w' := by
  obtain ⟨h1, ⟨m, h2⟩, ⟨a, b, h3⟩, c, d, h4⟩ := h
  exact ⟨h1.below hb, ⟨m, cell_kept h2 hb⟩, ⟨a, b, cell_kept h3 hb⟩, c, d, cell_kept h4 hb⟩
theorem cut_any (l : List UInt8) (m : UInt8) (w : World) (h : TabA w) (hl : l.length ≤ 4294967280) :
    Calls Tryz.prog 22 #[.string ⟨l.toArray⟩, .string ⟨#[m]⟩] w fun e w' => e = .returned (.tuple #[.string ⟨(cutM m l).1.toArray⟩, .string ⟨(cutM m l).2.1.toArray⟩, .bool (cutM m l).2.2]) ∧ Below w.heap.size w w' := by
  obtain ⟨k, hk⟩ := h.2.1
  refine (Tryz.strings_Cut ⟨l.toArray⟩ ⟨#[m]⟩ k w (by show l.length < _; omega) hk).mono ?_
  rintro e w' ⟨rfl, n, rfl⟩
  exact ⟨rfl, below_drewN (Below.refl _ _) n⟩
/-- The error beside Atoi's number. -/
def ErrA (b : Bool) (u : Value) : Prop := (b = true → u = .nilIface) ∧ (b = false → ∃ N, u = .iface 111 (.pointer (some ⟨N, 0, none⟩)))
theorem atoi_any (l : List UInt8) (w : World) (h : TabA w) (hl : l.length ≤ 4294967280) :
    Calls Tryz.prog 52 #[.string ⟨l.toArray⟩] w fun e w' => (∃ u, e = .returned (.tuple #[.int .i64 (atoiV l), u]) ∧ ErrA (atoiOk l) u) ∧ Below w.heap.size w w' := by
  obtain ⟨h1, ⟨m, h2⟩, ⟨a, b, h3⟩, c, d, h4⟩ := h
  cases hv : Lib.atoiAll l
  · rename_i v
    have e1 : atoiV l = v := by unfold atoiV; rw [hv]
    have e2 : atoiOk l = true := by unfold atoiOk; rw [hv]
    refine (Tryz.strconv_Atoi_ok ⟨l.toArray⟩ (by show l.length ≤ _; omega) v hv w).mono ?_
    rintro e w' ⟨rfl, rfl | ⟨t, rfl⟩⟩
    · exact ⟨⟨_, by rw [e1], by rw [e2]; exact ⟨fun _ => rfl, fun h => absurd h (by simp)⟩⟩, Below.refl _ _⟩
    · exact ⟨⟨_, by rw [e1], by rw [e2]; exact ⟨fun _ => rfl, fun h => absurd h (by simp)⟩⟩, Lib.bytesWorld_below _ _ _⟩
  · have e1 : atoiV l = 0 := by unfold atoiV; rw [hv]
    have e2 : atoiOk l = false := by unfold atoiOk; rw [hv]
    refine (Any.strconv_Atoi_syntax Tryz.laysC172 ⟨l.toArray⟩ (by show l.length ≤ _; omega) hv _ w h3 (.inr ⟨_, _, rfl⟩)).mono ?_
    rintro e w' ⟨N, rfl, -, -, hb⟩
    exact ⟨⟨_, by rw [e1], by rw [e2]; exact ⟨fun h => absurd h (by simp), fun _ => ⟨N, rfl⟩⟩⟩, hb⟩
  · have e1 : atoiV l = Lib.atoiSat l := by unfold atoiV; rw [hv]
    have e2 : atoiOk l = false := by unfold atoiOk; rw [hv]
    refine (Tryz.strconv_Atoi_range ⟨l.toArray⟩ (by show l.length ≤ _; omega) hv _ w h4 (.inr ⟨_, _, rfl⟩)).mono ?_
    rintro e w' ⟨N, rfl, -, -, hb⟩
    exact ⟨⟨_, by rw [e1], by rw [e2]; exact ⟨fun h => absurd h (by simp), fun _ => ⟨N, rfl⟩⟩⟩, hb⟩
end Go.Proofs.YtmionebfepkolaaGreatDoor

namespace Go.Proofs.YtmionebfepkolaaGreatDoor
open Go.RowKit

theorem splitK_words (m : UInt8) : ∀ (n : Nat) (b : List UInt8), b.length ≤ n → Lib.splitK [m] 0 (b.count m) b = words m b := by
  intro n
  induction n with
  | zero =>
    intro b hb
    have : b = [] := List.eq_nil_of_length_eq_zero (by omega)
    subst this
    rfl
  | succ n ih =>
    intro b hb
    by_cases h : m ∈ b
    · obtain ⟨h1, h2, h3⟩ := cutM_yes h
      have hlt := (cutM_len m b).2.2 h
      have hi := ih (cutM m b).2.1 (by omega)
      have hg := Lib.index_ge b [m]
      have h0 : 0 ≤ Lib.index b [m] := by
        rcases Int.lt_or_le (Lib.index b [m]) 0 with hneg | hpos
        · exfalso
          unfold cutM Lib.cut at h1
          rw [if_neg (by omega)] at h1
          exact absurd h1 (by simp)
        · exact hpos
      have hc : cutM m b = (b.take (Lib.index b [m]).toNat, b.drop ((Lib.index b [m]).toNat + 1), true) := by
        unfold cutM Lib.cut
        rw [if_pos h0]
        rfl
      have hcount : b.count m = (cutM m b).2.1.count m + 1 := by
        conv => lhs; rw [h3]
        rw [List.count_append, List.count_eq_zero_of_not_mem h2, List.count_cons_self]
        omega
      have hne : ¬ (Lib.index b [m] == -1) = true := by rw [beq_iff_eq]; omega
      rw [words_cut h, hcount, Lib.splitK, if_neg hne, ← hi]
      rw [hc]
      rfl
    · rw [List.count_eq_zero_of_not_mem h, words_no h]
      rfl
theorem splitB_words (m : UInt8) (b : List UInt8) : Lib.splitB ⟨#[m]⟩ 0 (Lib.countB ⟨b.toArray⟩ ⟨#[m]⟩) ⟨b.toArray⟩ = (words m b).map fun s => (⟨s.toArray⟩ : ByteArray) := by
  have h1 := Lib.splitB_data ⟨#[m]⟩ 0 (b.count m) ⟨b.toArray⟩
  have h2 : Lib.countB ⟨b.toArray⟩ ⟨#[m]⟩ = b.count m := Lib.count_one m b
  rw [h2]
  have h3 : (Lib.splitB ⟨#[m]⟩ 0 (b.count m) ⟨b.toArray⟩).map (·.data.toList) = words m b := h1.trans (splitK_words m b.length b (Nat.le_refl _))
  rw [← h3, List.map_map]
  conv => lhs; rw [← List.map_id (Lib.splitB ⟨#[m]⟩ 0 (b.count m) ⟨b.toArray⟩)]
  apply List.map_congr_left
  intro x _
  simp
theorem split_any (l : List UInt8) (m : UInt8) (w : World) (h : TabA w) (hl : l.length ≤ 4294967280) :
    Calls Tryz.prog 23 #[.string ⟨l.toArray⟩, .string ⟨#[m]⟩] w fun e w' => (∃ v, e = .returned v ∧ w'.ownsRow w.heap.size 9 1 v (words m l).length (bcel (words m l))) ∧ Below w.heap.size w w' := by
  obtain ⟨k, hk⟩ := h.2.1
  refine (Tryz.strings_Split ⟨l.toArray⟩ ⟨#[m]⟩ k w (by show l.length < _; omega) hk (by show 1 ≤ 1; omega)).mono ?_
  rintro e w' ⟨rfl, rfl⟩
  have hs := splitB_words m l
  have hcl : Lib.countB ⟨l.toArray⟩ ⟨#[m]⟩ + 1 = (words m l).length := by
    have := Lib.splitB_all ⟨#[m]⟩ (by show 1 ≤ 1; omega) 0 _ ⟨l.toArray⟩ rfl
    rw [hs, List.length_map] at this
    exact this.symm
  have hwl : (words m l).length ≤ l.length + 1 := wordsA_len m l []
  have hc : ((words m l).map fun s => (⟨s.toArray⟩ : ByteArray)).map Value.string = bcel (words m l) := by
    unfold bcel
    rw [List.map_map]
    rfl
  rw [hs, hc, hcl]
  refine ⟨⟨_, rfl, ?_, ?_⟩, (Below.refl _ _).alloc (Nat.le_refl _) _⟩
  · rw [bcel_len]; omega
  · right
    refine ⟨w.heap.size, (words m l).length, (bcel (words m l)).toArray, rfl, Nat.le_refl _, ?_, Nat.le_refl _, by unfold maxLen; omega, ?_, ?_⟩
    · show (w.heap.push _)[w.heap.size]? = _
      rw [Array.getElem?_push_size]
    · simp [bcel_len]
    · rw [List.toList_toArray, List.take_of_length_le (by rw [bcel_len]; omega)]
end Go.Proofs.YtmionebfepkolaaGreatDoor
