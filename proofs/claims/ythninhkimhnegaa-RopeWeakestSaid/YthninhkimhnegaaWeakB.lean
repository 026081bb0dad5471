/- Ropes and their uses, side by side: which is weakest: plain. -/
import Derived.Test.YthninhkimhnegaaRowsB
import Derived.Test.YthninhkimhnegaaWear4
set_option linter.unusedSimpArgs false
set_option linter.unusedVariables false
namespace Go.Proofs.Ythninhkimhnegaa
open Go.RowKit

def wAsk (r : Int × Int × Int) (u : RowU) : Int := askR r.1 r.2.1 r.2.2 u.2 0
def wSafe (day : Int) (r : Int × Int × Int) (u : RowU) : Int := max 0 (safeR r.1 r.2.1 r.2.2 u.2 day)
/-- The first place of the least of f 0 .. f (n-1). -/
def argm (f : Nat → Int) : Nat → Nat
  | 0 => 0
  | n + 1 => if n = 0 then 0 else if f n < f (argm f n) then n else argm f n
theorem argm_one (f : Nat → Int) : argm f 1 = 0 := rfl
theorem argm_succ (f : Nat → Int) {n : Nat} (h : 0 < n) : argm f (n + 1) = if f n < f (argm f n) then n else argm f n := by
  show (if n = 0 then 0 else _) = _
  rw [if_neg (by omega)]
def okW (rs : List (Int × Int × Int)) (us : List RowU) : Bool := (List.range rs.length).all fun k => decide (wAsk (rs[k]?.getD (0,0,0)) (us[k]?.getD dU) = 0)
theorem okW_iff {rs : List (Int × Int × Int)} {us : List RowU} : okW rs us = true ↔ ∀ k, k < rs.length → wAsk (rs[k]?.getD (0,0,0)) (us[k]?.getD dU) = 0 := by
  simp [okW]
def weakE (rs : List (Int × Int × Int)) (us : List RowU) (day : Int) : Int :=
  if withinB rs.length 1 20 && us.length == rs.length then (if okW rs us then (if withinB day 0 100000 then 0 else 7) else 1) else 9
def weakF (rs : List (Int × Int × Int)) (us : List RowU) (day : Int) (k : Nat) : Int := wSafe day (rs[k]?.getD (0,0,0)) (us[k]?.getD dU)
def weakV (rs : List (Int × Int × Int)) (us : List RowU) (day : Int) : Int := if weakE rs us day = 0 then ((argm (weakF rs us day) rs.length : Nat) : Int) else 0
/-- Where the search for the least stands behind k places; the least is s as long as nothing was looked at. -/
def WeakAt (f : Nat → Int) (s : Int) (k : Nat) (B L : Int) : Prop := (k = 0 ∧ B = 0 ∧ L = s) ∨ (0 < k ∧ B = (argm f k : Nat) ∧ L = f (argm f k))
theorem WeakAt.low {f : Nat → Int} {s : Int} {k : Nat} {B L : Int} (h : WeakAt f s k B L) (hk : k = 0 ∨ f k < L) : WeakAt f s (k + 1) k (f k) := by
  rcases h with ⟨rfl, h2, h3⟩ | ⟨h1, h2, h3⟩
  · exact .inr ⟨by omega, by rw [argm_one], by rw [argm_one]⟩
  · have h4 : f k < L := by rcases hk with h | h; omega; exact h
    exact .inr ⟨by omega, by rw [argm_succ f h1, if_pos (by omega)], by rw [argm_succ f h1, if_pos (by omega)]⟩
theorem WeakAt.stay {f : Nat → Int} {s : Int} {k : Nat} {B L : Int} (h : WeakAt f s k B L) (hk : 0 < k) (hn : ¬ f k < L) : WeakAt f s (k + 1) B L := by
  rcases h with ⟨rfl, h2, h3⟩ | ⟨h1, h2, h3⟩
  · omega
  · exact .inr ⟨by omega, by rw [argm_succ f h1, if_neg (by omega)]; exact h2, by rw [argm_succ f h1, if_neg (by omega)]; exact h3⟩
theorem wAsk_spec {r : Int × Int × Int} {u : RowU} (h : wAsk r u = 0) : goodR r.1 r.2.1 r.2.2 = true ∧ goodU u.2 = true := by
  have := ask_spec h
  exact ⟨this.1, this.2.1⟩
theorem safeR_bd {s d l : Int} {us : List (Int × Int)} {day : Int} (hr : goodR s d l = true) (hu : goodU us = true) (h0 : 0 ≤ day) : -1 ≤ safeR s d l us day ∧ safeR s d l us day ≤ 1000000 := by
  obtain ⟨⟨r1, r2⟩, ⟨r3, r4⟩, r5, r6⟩ := goodR_spec hr
  have hb := leftR_bd' r1 r3 hu h0
  unfold safeR
  split
  · omega
  · have h1 : 0 ≤ s * leftR s d us day := Int.mul_nonneg (by omega) hb.1
    have h2 : s * leftR s d us day ≤ 1000000 * 1000 := Int.mul_le_mul r2 hb.2 hb.1 (by decide)
    omega
end Go.Proofs.Ythninhkimhnegaa
