/- Joined by merge.py from: WkM Weak RWeak. -/
import Derived.Test.YtloogollfconpaaCmpN
import Derived.Test.YtloogollfconpaaRResN
import Derived.Test.YtloogollfconpaaMake2
import Derived.Test.YtloogollfconpaaTape9
set_option linter.unusedSimpArgs false
set_option linter.unusedVariables false
namespace Go.Proofs.Ytloogollfconpaa
open Go.RowKit

/-- What is looked at for the tape i: the resistance without it, or 10^18. -/
def wkR (l : List Tp) (a b : Int) (i : Nat) : Int × Int := if jnB (l.eraseIdx i) a b then (resN (l.eraseIdx i) a b, resD (l.eraseIdx i) a b) else (1000000000000000000, 1)
def wkS (l : List Tp) (a b : Int) : Nat → Nat × Int × Int
  | 0 => (0, -1, 1)
  | k + 1 => if 0 < cmpR (wkR l a b k).1 (wkR l a b k).2 (wkS l a b k).2.1 (wkS l a b k).2.2 then (k, wkR l a b k) else wkS l a b k
theorem wkS_succ (l : List Tp) (a b : Int) (k : Nat) : wkS l a b (k + 1) = if 0 < cmpR (wkR l a b k).1 (wkR l a b k).2 (wkS l a b k).2.1 (wkS l a b k).2.2 then (k, wkR l a b k) else wkS l a b k := rfl
theorem wkOk {l : List Tp} (h : okL l) (i : Nat) : okL (l.eraseIdx i) := fun t ht => h t (List.mem_of_mem_eraseIdx ht)
theorem wkLen {l : List Tp} (h : l.length ≤ 10) (i : Nat) : (l.eraseIdx i).length ≤ 10 := Nat.le_trans (List.length_eraseIdx_le ..) h
theorem res_bd {l : List Tp} (hl : okL l) (h10 : l.length ≤ 10) {a b : Int} (ha : nod a) : (0 ≤ resN l a b ∧ resN l a b ≤ 713342911662882601) ∧ 1 ≤ resD l a b ∧ resD l a b ≤ 713342911662882601 := by
  rw [(resN_low hl ha).1, (resN_low hl ha).2]
  have h1 := trees_pos hl ha
  have h2 := trees_bd hl h10 a
  have h3 := twos_bd hl h10 a a b
  have h4 := lowN_nonneg (twosN l a a b) (treesN l a) h1 h3.1
  have h5 := lowN_le (twosN l a a b) (treesN l a) h1 h3.1
  have h6 := lowD_pos (twosN l a a b) (treesN l a) h1
  have h7 := lowD_le (twosN l a a b) (treesN l a) h1
  omega
theorem wkR_bd {l : List Tp} (hl : okL l) (h10 : l.length ≤ 10) {a b : Int} (ha : nod a) (i : Nat) : (0 ≤ (wkR l a b i).1 ∧ (wkR l a b i).1 ≤ 1000000000000000000) ∧ 1 ≤ (wkR l a b i).2 ∧ (wkR l a b i).2 ≤ 1000000000000000000 := by
  unfold wkR
  split
  · have := res_bd (b := b) (wkOk hl i) (wkLen h10 i) ha
    dsimp only; omega
  · dsimp only; omega
theorem wkS_bd {l : List Tp} (hl : okL l) (h10 : l.length ≤ 10) {a b : Int} (ha : nod a) : ∀ k, (-1 ≤ (wkS l a b k).2.1 ∧ (wkS l a b k).2.1 ≤ 1000000000000000000) ∧ 1 ≤ (wkS l a b k).2.2 ∧ (wkS l a b k).2.2 ≤ 1000000000000000000
  | 0 => by simp [wkS]
  | k + 1 => by
    have h1 := wkR_bd (b := b) hl h10 ha k
    have h2 := wkS_bd (b := b) hl h10 ha k
    unfold wkS
    split
    · dsimp only; omega
    · exact h2
theorem wkS_le (l : List Tp) (a b : Int) : ∀ k, (wkS l a b k).1 ≤ k
  | 0 => Nat.le_refl _
  | k + 1 => by
    have := wkS_le l a b k
    unfold wkS
    split
    · exact Nat.le_succ k
    · omega
theorem cmp_pos {an ad bn bd : Int} (h1 : 1 ≤ ad) (h2 : 1 ≤ bd) : 0 < cmpR an ad bn bd ↔ bn * ad < an * bd := by
  unfold cmpR
  have e1 : den1 bd = bd := by unfold den1; rw [if_neg (by omega)]
  have e2 : den1 ad = ad := by unfold den1; rw [if_neg (by omega)]
  rw [e1, e2]
  rcases sgn_cases (an * bd - bn * ad) with ⟨h, h'⟩ | ⟨h, h'⟩ | ⟨h, h'⟩ <;> omega
theorem wkS_one {l : List Tp} (hl : okL l) (h10 : l.length ≤ 10) {a b : Int} (ha : nod a) : wkS l a b 1 = (0, wkR l a b 0) := by
  have h1 := wkR_bd (b := b) hl h10 ha 0
  have e : wkS l a b 0 = (0, -1, 1) := rfl
  rw [wkS_succ l a b 0, e, if_pos]
  dsimp only
  generalize wkR l a b 0 = r at *
  rw [cmp_pos (by omega) (by omega)]; omega
theorem wkS_jn {l : List Tp} (hl : okL l) (h10 : l.length ≤ 10) {a b : Int} (ha : nod a) : ∀ k, (∀ j, j < k → jnB (l.eraseIdx j) a b = true) → (wkS l a b k).2.1 ≤ 713342911662882601
  | 0, _ => by simp [wkS]
  | k + 1, h => by
    have h2 := wkS_jn (b := b) hl h10 ha k (fun j hj => h j (by omega))
    unfold wkS
    split
    · unfold wkR
      rw [if_pos (h k (by omega))]
      exact (res_bd (wkOk hl k) (wkLen h10 k) ha).1.2
    · exact h2
theorem wkS_stop {l : List Tp} (hl : okL l) (h10 : l.length ≤ 10) {a b : Int} (ha : nod a) {i : Nat} (h : ∀ j, j < i → jnB (l.eraseIdx j) a b = true) (h0 : jnB (l.eraseIdx i) a b = false) : ∀ m, wkS l a b (i + 1 + m) = (i, 1000000000000000000, 1)
  | 0 => by
    have h1 := wkS_jn hl h10 ha i h
    have h2 := wkS_bd (b := b) hl h10 ha i
    have hr : wkR l a b i = (1000000000000000000, 1) := by unfold wkR; rw [if_neg (by rw [h0]; decide)]
    rw [Nat.add_zero, wkS_succ, if_pos (by rw [hr, cmp_pos (by decide) (by omega)]; dsimp only; omega), hr]
  | m + 1 => by
    have h1 := wkS_stop hl h10 ha h h0 m
    have h2 := wkR_bd (b := b) hl h10 ha (i + 1 + m)
    rw [← Nat.add_assoc, wkS_succ, h1]
    dsimp only
    rw [if_neg (by rw [cmp_pos (by omega) (by decide)]; omega)]
theorem wk_stop {l : List Tp} (hl : okL l) (h10 : l.length ≤ 10) {a b : Int} (ha : nod a) {i n : Nat} (hi : i < n) (h : ∀ j, j < i → jnB (l.eraseIdx j) a b = true) (h0 : jnB (l.eraseIdx i) a b = false) : (wkS l a b n).1 = i := by
  have := wkS_stop hl h10 ha h h0 (n - i - 1)
  rw [show i + 1 + (n - i - 1) = n by omega] at this
  rw [this]
/-- The answer of Weakest: the tape, and the error. -/
def wkE (n : Int) (l : List Tp) (a b : Int) : Int := if askE n l [a, b] = 0 then (if jnB l a b && !(l.isEmpty) then 0 else 8) else askE n l [a, b]
def wkV (n : Int) (l : List Tp) (a b : Int) : Int := if wkE n l a b = 0 then ((wkS l a b l.length).1 : Int) else 0
end Go.Proofs.Ytloogollfconpaa

namespace Go.Proofs.Ytloogollfconpaa
open Go.RowKit
attribute [local go_sem] Later.cell Same.cell

def ca2 (x : Int × Int) : List Value := [.int .i64 x.1, .int .i64 x.2]
def WkI (w1 : World) (l : List Tp) (a b : Int) (M n : Nat) (i v : Value) (W : World) : Prop := ∃ k : Nat, k ≤ n ∧ i = .int .i64 k ∧ v = .int .i64 ((wkS l a b k).1 : Int) ∧ CA W M (ca2 (wkS l a b k).2) ∧ Below w1.heap.size w1 W
theorem WkI.mk {w1 : World} {l : List Tp} {a b : Int} {M n : Nat} {i v : Value} {W : World} (k : Nat) (h1 : k ≤ n) (h2 : i = .int .i64 k) (h3 : v = .int .i64 ((wkS l a b k).1 : Int)) (h4 : CA W M (ca2 (wkS l a b k).2)) (h5 : Below w1.heap.size w1 W) : WkI w1 l a b M n i v W := ⟨k, h1, h2, h3, h4, h5⟩
end Go.Proofs.Ytloogollfconpaa

namespace Go.Proofs.Ytloogollfconpaa
open Go.RowKit
attribute [local go_sem] Later.cell Same.cell

theorem wvNet_iff {n : Int} {l : List Tp} : vNet n l = true ↔ (1 ≤ n ∧ n ≤ 6) ∧ l.length ≤ 10 ∧ ∀ t, t ∈ l → 0 ≤ t.1 ∧ t.1 < t.2.1 ∧ t.2.1 < n ∧ 1 ≤ t.2.2 ∧ t.2.2 ≤ 60 := by
  simp [vNet, vT, withinB, List.all_eq_true, and_assoc]
theorem wvNet_erase {n : Int} {l : List Tp} (h : vNet n l = true) (i : Nat) : vNet n (l.eraseIdx i) = true := by
  obtain ⟨h1, h2, h3⟩ := wvNet_iff.1 h
  exact wvNet_iff.2 ⟨h1, Nat.le_trans (List.length_eraseIdx_le ..) h2, fun t ht => h3 t (List.mem_of_mem_eraseIdx ht)⟩
def rkS (l : List Tp) (a b : Int) (k : Nat) : Nat × Int × Int := if k = 0 then (0, 0, 0) else wkS l a b k
def RkI (w1 : World) (l : List Tp) (a b : Int) (M n : Nat) (i v : Value) (W : World) : Prop := ∃ k : Nat, k ≤ n ∧ i = .int .i64 k ∧ v = .int .i64 ((rkS l a b k).1 : Int) ∧ CA W M (ca2 (rkS l a b k).2) ∧ Hid (∀ j, j < k → jnB (l.eraseIdx j) a b = true) ∧ Below w1.heap.size w1 W
theorem RkI.mk {w1 : World} {l : List Tp} {a b : Int} {M n : Nat} {i v : Value} {W : World} (k : Nat) (h1 : k ≤ n) (h2 : i = .int .i64 k) (h3 : v = .int .i64 ((rkS l a b k).1 : Int)) (h4 : CA W M (ca2 (rkS l a b k).2)) (h6 : Hid (∀ j, j < k → jnB (l.eraseIdx j) a b = true)) (h5 : Below w1.heap.size w1 W) : RkI w1 l a b M n i v W := ⟨k, h1, h2, h3, h4, h6, h5⟩
end Go.Proofs.Ytloogollfconpaa
