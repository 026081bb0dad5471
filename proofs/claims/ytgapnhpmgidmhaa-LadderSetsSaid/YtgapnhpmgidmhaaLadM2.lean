/- How many ladders it takes from a foot on, sound or not: plain. No program is named. -/
import Derived.Test.YtgapnhpmgidmhaaLadM
import Derived.Test.YtgapnhpmgidmhaaCntM
import Derived.Test.YtgapnhpmgidmhaaNeedR
set_option linter.unusedSimpArgs false
set_option linter.unusedVariables false
namespace Go.Proofs.Ytgapnhpmgidmhaa
open Go.RowKit

theorem need_drop (c : Clb) : ∀ (m : Nat) (F : List J) (j : Nat), need c (F.drop m) j = need c F (m + j)
  | 0, F, j => by simp
  | m + 1, [], j => by rw [List.drop_nil, need_out (by simp), need_out (by simp)]
  | m + 1, x :: F, j => by
    rw [List.drop_succ_cons, need_drop c m F j, show m + 1 + j = (m + j) + 1 by omega, need_succ]
theorem hgt_drop (F : List J) (m j : Nat) : hgt (F.drop m) j = hgt F (m + j) := by unfold hgt; rw [List.getElem?_drop]
/-- How many from a foot on, as if it were sound. -/
def nd1 (c : Clb) (F : List J) (k : Nat) : Nat := if c.to ≤ hgt F k + c.ga then 1 else bestL c.ga (hgt F k) ((F.drop (k + 1)).zip (needL c (F.drop (k + 1))))
theorem nd1_one {c : Clb} {F : List J} {k : Nat} (h : c.to ≤ hgt F k + c.ga) : nd1 c F k = 1 := if_pos h
theorem nd1_spec {c : Clb} {F : List J} {k : Nat} (h : ¬ c.to ≤ hgt F k + c.ga) : MinS (fun q => k < q ∧ q < F.length ∧ hgt F q - hgt F k ≤ c.ga) (need c F) (nd1 c F k) := by
  unfold nd1
  rw [if_neg h]
  obtain ⟨G, hG⟩ : ∃ G, G = F.drop (k + 1) := ⟨_, rfl⟩
  rw [← hG]
  have hb := bestL_spec c.ga (hgt F k) (dJ, 0) (G.zip (needL c G))
  have hz : (G.zip (needL c G)).length = G.length := by rw [List.length_zip, needL_len, Nat.min_self]
  have hl : G.length = F.length - (k + 1) := by rw [hG, List.length_drop]
  have hn : ∀ j, need c G j = need c F (k + 1 + j) := fun j => by rw [hG, need_drop]
  have hh : ∀ j, hgt G j = hgt F (k + 1 + j) := fun j => by rw [hG, hgt_drop]
  have hg : ∀ j, j < G.length → (G.zip (needL c G))[j]?.getD (dJ, 0) = (G[j]?.getD dJ, need c G j) := by
    intro j hj
    have h2 : j < (needL c G).length := by rw [needL_len]; exact hj
    rw [List.getElem?_eq_getElem (by rw [hz]; exact hj), List.getElem_zip, need, List.getElem?_eq_getElem hj, List.getElem?_eq_getElem h2]; rfl
  have hh' : ∀ j, (G[j]?.getD dJ).1 = hgt F (k + 1 + j) := fun j => hh j
  rcases hb with ⟨k1, k2⟩ | ⟨i, k1, k2, k3, k4⟩
  · refine .inl ⟨k1, fun q hq => ?_⟩
    obtain ⟨j, rfl⟩ : ∃ j, q = k + 1 + j := ⟨q - (k + 1), by omega⟩
    have hj : j < G.length := by omega
    have := k2 j ⟨by rw [hz]; exact hj, by rw [hg j hj]; show (G[j]?.getD dJ).1 - _ ≤ _; rw [hh']; exact hq.2.2⟩
    dsimp only at this
    rw [hg j hj] at this
    rw [← hn]; exact this
  · have hi : i < G.length := by rw [← hz]; exact k1.1
    dsimp only at k1 k2 k3 k4
    rw [hg i hi] at k1 k2 k3
    have k12 := k1.2
    dsimp only at k12 k2 k3
    rw [hh'] at k12
    refine .inr ⟨k + 1 + i, ⟨by omega, by omega, k12⟩, by rw [← hn]; exact k2, by rw [← hn]; exact k3, fun q hq hqn => ?_⟩
    obtain ⟨j, rfl⟩ : ∃ j, q = k + 1 + j := ⟨q - (k + 1), by omega⟩
    have hj : j < G.length := by omega
    have := k4 j ⟨by rw [hz]; exact hj, by rw [hg j hj]; show (G[j]?.getD dJ).1 - _ ≤ _; rw [hh']; exact hq.2.2⟩ (by rw [hg j hj]; show 0 < need c G j; rw [hn]; exact hqn)
    rw [hg i hi, hg j hj] at this
    rw [← hn, ← hn]; exact this
theorem nd1_need {c : Clb} {F : List J} {k : Nat} (hk : k < F.length) (hs : sndB F k = true) : nd1 c F k = need c F k := by
  obtain ⟨-, h2, h3⟩ := need_spec c F k hk
  by_cases h : c.to ≤ hgt F k + c.ga
  · rw [nd1_one h, h2 hs h]
  · exact MinS.unique (nd1_spec h) (h3 hs h)
theorem nd1_bd (c : Clb) (F : List J) (k : Nat) : nd1 c F k ≤ F.length + 1 := by
  by_cases h : c.to ≤ hgt F k + c.ga
  · rw [nd1_one h]; omega
  · rcases nd1_spec h with ⟨h1, -⟩ | ⟨i, -, -, h3, -⟩
    · omega
    · have := need_bd c F i; omega
/-- What is counted when the feet below k have been looked at behind the foot i. -/
def LcAt (c : Clb) (F : List J) (i k a : Nat) : Prop := (c.to ≤ hgt F i + c.ga ∧ a = 1) ∨ (¬ c.to ≤ hgt F i + c.ga ∧ RcAt c F i k a)
theorem LcAt.one {c : Clb} {F : List J} {i : Nat} (h : c.to ≤ hgt F i + c.ga) : LcAt c F i (i + 1) 1 := .inl ⟨h, rfl⟩
theorem LcAt.zero {c : Clb} {F : List J} {i : Nat} (h : ¬ c.to ≤ hgt F i + c.ga) : LcAt c F i (i + 1) 0 := .inr ⟨h, RcAt.zero c F i⟩
theorem LcAt.skip {c : Clb} {F : List J} {i k a : Nat} (h : LcAt c F i k a) (hk : need c F k = 0 ∨ ¬ hgt F k - hgt F i ≤ c.ga) : LcAt c F i (k + 1) a := by
  rcases h with h | ⟨h1, h2⟩
  · exact .inl h
  · refine .inr ⟨h1, MinS.same h2 fun q hq => ?_⟩
    constructor
    · rintro ⟨g1, g2, g3⟩
      refine ⟨g1, ?_, g3⟩
      by_cases e : q = k
      · subst e
        rcases hk with hk | hk
        · omega
        · exact absurd g3 hk
      · omega
    · rintro ⟨g1, g2, g3⟩; exact ⟨g1, by omega, g3⟩
theorem LcAt.low {c : Clb} {F : List J} {i k a : Nat} (h : LcAt c F i k a) (hik : i < k) (ha : hgt F k - hgt F i ≤ c.ga) (hn : 0 < need c F k) (hl : a = 0 ∨ need c F k + 1 < a) : LcAt c F i (k + 1) (need c F k + 1) := by
  rcases h with ⟨h1, h2⟩ | ⟨h1, h2⟩
  · exfalso; omega
  · exact .inr ⟨h1, h2.low hik ha hn hl⟩
theorem LcAt.stay {c : Clb} {F : List J} {i k a : Nat} (h : LcAt c F i k a) (hik : i < k) (ha : hgt F k - hgt F i ≤ c.ga) (hl : ¬ (a = 0 ∨ need c F k + 1 < a)) : LcAt c F i (k + 1) a := by
  rcases h with h | ⟨h1, h2⟩
  · exact .inl h
  · exact .inr ⟨h1, h2.stay hik ha hl⟩
theorem LcAt.done {c : Clb} {F : List J} {i a : Nat} (h : LcAt c F i F.length a) : a = nd1 c F i := by
  rcases h with ⟨h1, h2⟩ | ⟨h1, h2⟩
  · rw [nd1_one h1, h2]
  · exact MinS.unique h2 (nd1_spec h1)
theorem LcAt.le {c : Clb} {F : List J} {i k a : Nat} (h : LcAt c F i k a) : a ≤ F.length + 1 := by
  rcases h with ⟨h1, h2⟩ | ⟨h1, h2⟩
  · omega
  · exact h2.le
/-- The map of the feet from j on. -/
def rsM (c : Clb) (F : List J) (j : Nat) : Int → Option Int := fun q => if (0 ≤ q ∧ (j : Int) ≤ q ∧ q < F.length) ∧ 0 < nd1 c F q.toNat then some (nd1 c F q.toNat : Int) else none
theorem rsM_end (c : Clb) (F : List J) : rsM c F F.length = fun _ => none := by
  funext q; unfold rsM; rw [if_neg (by omega)]
theorem rsM_acc (c : Clb) (F : List J) (k : Nat) : accM (rsM c F (k + 1)) k 0 = rsM c F (k + 1) := by
  funext q
  unfold accM
  by_cases h : q = k
  · rw [if_pos h, if_pos rfl]
    unfold rsM; rw [if_neg (by omega)]
  · rw [if_neg h]
theorem rsM_next {c : Clb} {F : List J} {k : Nat} (hk : k < F.length) : accM (rsM c F (k + 1)) k (nd1 c F k) = rsM c F k := by
  funext q
  unfold accM
  by_cases h : q = k
  · subst h
    rw [if_pos rfl]
    unfold rsM
    rw [Int.toNat_natCast]
    by_cases h0 : nd1 c F k = 0
    · rw [if_pos h0, if_neg (by omega)]
    · rw [if_neg h0, if_pos (by omega)]
  · rw [if_neg h]
    unfold rsM
    have : ((0 ≤ q ∧ ((k + 1 : Nat) : Int) ≤ q ∧ q < F.length) ∧ 0 < nd1 c F q.toNat) ↔ ((0 ≤ q ∧ (k : Int) ≤ q ∧ q < F.length) ∧ 0 < nd1 c F q.toNat) := by omega
    simp only [this]
theorem rsM_get {c : Clb} {F : List J} {j k : Nat} (hj : j ≤ k) (hk : k < F.length) : (rsM c F j (k : Int)).getD 0 = (nd1 c F k : Int) := by
  unfold rsM
  rw [Int.toNat_natCast]
  by_cases h0 : 0 < nd1 c F k
  · rw [if_pos (by omega)]; rfl
  · rw [if_neg (by omega)]
    have : nd1 c F k = 0 := by omega
    rw [this]; rfl
theorem rsM_some {c : Clb} {F : List J} {j k : Nat} (hj : j ≤ k) (hk : k < F.length) : (rsM c F j (k : Int)).isSome = decide (0 < nd1 c F k) := by
  unfold rsM
  rw [Int.toNat_natCast]
  by_cases h0 : 0 < nd1 c F k
  · rw [if_pos (by omega), decide_eq_true h0]; rfl
  · rw [if_neg (by omega), decide_eq_false h0]; rfl
theorem rsM_other {c : Clb} {F : List J} {i k a : Nat} (hik : i < k) (hk : k < F.length) : accM (rsM c F (i + 1)) i a (k : Int) = rsM c F (i + 1) (k : Int) := by
  unfold accM
  rw [if_neg (by omega)]
end Go.Proofs.Ytgapnhpmgidmhaa
