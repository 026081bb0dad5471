/- Dogs: the reference's fewest. -/
import Derived.Test.YtjgibipficojaaaDoorNeedR
import Derived.Test.YtjgibipficojaaaDoorFew
set_option linter.unusedSimpArgs false
set_option linter.unusedVariables false
namespace Go.Proofs.YtjgibipficojaaaDoor
open Go.RowKit
attribute [local go_sem] Later.cell

def RFOut (c : Clb) (l : List J) (w1 : World) (v bf : Value) (wr : World) : Prop :=
  ∃ (out : List Int) (a : Int), bf = .int .i64 a ∧ (out.length : Int) ≤ a + 1 ∧ -1 ≤ a ∧ a < l.length ∧ Hid (∃ f, FewAt c l out f a) ∧ wr.ownsRow w1.heap.size 3 1 v out.length (icells out) ∧ Below w1.heap.size w1 wr
theorem RFOut.mk {c : Clb} {l : List J} {w1 : World} {v bf : Value} {wr : World} (out : List Int) (a : Int) (h1 : bf = .int .i64 a) (h2 : (out.length : Int) ≤ a + 1) (h3 : -1 ≤ a) (h4 : a < l.length) (h5 : Hid (∃ f, FewAt c l out f a)) (h6 : wr.ownsRow w1.heap.size 3 1 v out.length (icells out)) (h7 : Below w1.heap.size w1 wr) : RFOut c l w1 v bf wr := ⟨out, a, h1, h2, h3, h4, h5, h6, h7⟩
/-- How the search stands when the joints below k were looked at. -/
def PkAt (c : Clb) (l : List J) (a : Int) (k : Nat) (b : Int) : Prop := Pick (fun q => q < k ∧ folB c l a q = true) (need c l) b
theorem PkAt.start (c : Clb) (l : List J) {a : Int} (ha : -1 ≤ a) : PkAt c l a (a + 1).toNat (-1) := Pick.none fun q hq => by
  obtain ⟨h1, h2⟩ := hq
  unfold folB at h2
  split at h2
  · omega
  · rw [Bool.and_eq_true, decide_eq_true_eq] at h2
    have := h2.1; omega
theorem PkAt.iff {c : Clb} {l : List J} {a : Int} {k : Nat} (ha : folB c l a k = true) (q : Nat) : (q < k + 1 ∧ folB c l a q = true) ↔ (q < k ∧ folB c l a q = true) ∨ q = k := by
  constructor
  · rintro ⟨h1, h2⟩
    by_cases e : q = k
    · exact .inr e
    · exact .inl ⟨by omega, h2⟩
  · rintro (⟨h1, h2⟩ | rfl)
    · exact ⟨by omega, h2⟩
    · exact ⟨by omega, ha⟩
theorem PkAt.skip {c : Clb} {l : List J} {a : Int} {k : Nat} {b : Int} (h : PkAt c l a k b) (hk : need c l k = 0 ∨ folB c l a k = false) : PkAt c l a (k + 1) b := by
  refine Pick.same h fun q hq => ?_
  constructor
  · rintro ⟨h1, h2⟩
    refine ⟨?_, h2⟩
    by_cases e : q = k
    · subst e
      rcases hk with hk | hk
      · omega
      · rw [hk] at h2; cases h2
    · omega
  · rintro ⟨h1, h2⟩; exact ⟨by omega, h2⟩
theorem PkAt.low {c : Clb} {l : List J} {a : Int} {k : Nat} {b : Int} (h : PkAt c l a k b) (hn : 0 < need c l k) (ha : folB c l a k = true) (hl : b < 0 ∨ need c l k < need c l b.toNat) : PkAt c l a (k + 1) k := Pick.low h (PkAt.iff ha) hn hl
theorem PkAt.stay {c : Clb} {l : List J} {a : Int} {k : Nat} {b : Int} (h : PkAt c l a k b) (ha : folB c l a k = true) (hl : 0 ≤ b ∧ ¬ need c l k < need c l b.toNat) : PkAt c l a (k + 1) b := Pick.stay h (PkAt.iff ha) (fun q hq => hq.1) (.inr hl)
theorem PkAt.done {c : Clb} {l : List J} {a b : Int} (h : PkAt c l a l.length b) : b = nxt c l a := Pick.unique h (nxt_spec c l a)
theorem PkAt.bd {c : Clb} {l : List J} {a : Int} {k : Nat} {b : Int} (h : PkAt c l a k b) : b = -1 ∨ (0 ≤ b ∧ b < l.length) := by
  rcases h with ⟨h1, _⟩ | ⟨i, rfl, h2, h3, _⟩
  · exact .inl h1
  · have := need_snd h3; exact .inr ⟨by omega, by omega⟩
def RFInn (c : Clb) (l : List J) (w2 : World) (a : Int) (b i : Value) (wr : World) : Prop :=
  ∃ (k : Nat) (B : Int), a < k ∧ k ≤ l.length ∧ i = .int .i64 k ∧ b = .int .i64 B ∧ Hid (PkAt c l a k B) ∧ Below w2.heap.size w2 wr
theorem RFInn.mk {c : Clb} {l : List J} {w2 : World} {a : Int} {b i : Value} {wr : World} (k : Nat) (B : Int) (h0 : a < k) (h1 : k ≤ l.length) (h2 : i = .int .i64 k) (h3 : b = .int .i64 B) (h4 : Hid (PkAt c l a k B)) (h5 : Below w2.heap.size w2 wr) : RFInn c l w2 a b i wr := ⟨k, B, h0, h1, h2, h3, h4, h5⟩

end Go.Proofs.YtjgibipficojaaaDoor
