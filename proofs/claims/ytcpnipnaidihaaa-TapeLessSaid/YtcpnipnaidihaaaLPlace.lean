/- TapeLess: place; a block of known cells. -/
import Derived.Test.YtcpnipnaidihaaaLessM
import Derived.Test.YtcpnipnaidihaaaMix
import Derived.Test.YtcpnipnaidihaaaMid
set_option linter.unusedSimpArgs false
set_option linter.unusedVariables false
namespace Go.Proofs.Ytcpnipnaidihaaa
open Go.RowKit
attribute [local go_sem] Later.cell Same.cell

/-- Block b holds just these cells. -/
def Blk (W : World) (b : Nat) (c : Array Value) (t : TypeId) : Prop := W.heap[b]? = some (.cells c t (0, 0))
theorem Blk.new (W : World) (c : Array Value) (t : TypeId) : Blk (W.alloc (.cells c t)) W.heap.size c t := by
  show (W.heap.push _)[W.heap.size]? = _
  simp
theorem Blk.lt {W : World} {b : Nat} {c : Array Value} {t : TypeId} (h : Blk W b c t) : b < W.heap.size := (Array.getElem?_eq_some_iff.1 h).1
theorem Blk.later {W W' : World} {b : Nat} {c : Array Value} {t : TypeId} (h : Blk W b c t) (hb : Below W.heap.size W W') : Blk W' b c t := (hb.block b h.lt).trans h
theorem Blk.cell {W : World} {b : Nat} {c : Array Value} {t : TypeId} (h : Blk W b c t) (o : Nat) : W.cell? ⟨b, o, none⟩ = c[o]? ∧ W.frozen? ⟨b, o, none⟩ = false := by
  unfold Blk at h
  exact ⟨by simp [World.cell?, h], by simp [World.frozen?, h]⟩
def isPt (v : Value) (zb : Nat) : Prop := v = .pointer (some ⟨zb, 0, none⟩)
/-- A fraction that lies in a block made later than the world w. -/
def UJ (w : World) (X Y : Int) (ub : Nat) (W : World) : Prop := Below w.heap.size w W ∧ w.heap.size ≤ ub ∧ ub < W.heap.size ∧ W.cell? ⟨ub, 0, none⟩ = some (.int .i64 X) ∧ W.cell? ⟨ub, 1, none⟩ = some (.int .i64 Y)
theorem UJ.store {w W : World} {X Y : Int} {ub : Nat} {t : TypeId} (hB : Below w.heap.size w W) (h0 : w.heap.size ≤ ub) (hu : Blk W ub #[.int .i64 0, .int .i64 0] t) : UJ w X Y ub ((W.setCell ⟨ub, 0, none⟩ (.int .i64 X)).setCell ⟨ub, 1, none⟩ (.int .i64 Y)) := by
  have hlt := hu.lt
  have c0 := (hu.cell 0).1
  have c1 := (hu.cell 1).1
  simp at c0 c1
  refine ⟨(hB.setCell h0 _).setCell h0 _, h0, by simpa using hlt, ?_, ?_⟩ <;> go_simp
set_option maxHeartbeats 1000000 in
theorem place_any (x a b o : Int) (w : World) (hx : -9223372036854775808 < x ∧ x ≤ 9223372036854775807) :
    Calls Try.prog 47 #[.int .i64 x, .agg #[.int .i64 a, .int .i64 b, .int .i64 o]] w fun e w' => e = .returned (.int .i64 (nw a b x)) ∧ Below w.heap.size w w' := by
  have hN : nw a b x = if x = b then a else if x > b then x - 1 else x := rfl
  have hw1 : IntKind.i64.wrap (x - 1) = x - 1 := IntWalk.i64_in _ (by omega)
  by_cases h1 : x = b
  · subst h1
    rw [if_pos rfl] at hN
    rw [hN]
    clear hN
    go_enter Try.func47, Try.ntmps47
    go_wp2
    go_ret
    exact ⟨rfl, (by repeat (first | exact Below.refl _ _ | assumption | refine Below.setCell ?_ (by first | (simp; done) | (simp; omega) | omega) _ | refine Below.drew ?_ | refine below_drewN ?_ _ | refine Below.alloc ?_ (by first | (simp; done) | (simp; omega) | omega) _ | refine below_alloc ?_ _ | refine below_step ?_ (by assumption)))⟩
  · have h1' : (x == b) = false := by simpa using h1
    rw [if_neg h1] at hN
    by_cases h2 : x > b
    · have h2' : decide (b < x) = true := by simpa using h2
      rw [if_pos h2] at hN
      rw [hN]
      clear hN
      go_enter Try.func47, Try.ntmps47
      go_wp2
      go_ret
      exact ⟨rfl, (by repeat (first | exact Below.refl _ _ | assumption | refine Below.setCell ?_ (by first | (simp; done) | (simp; omega) | omega) _ | refine Below.drew ?_ | refine below_drewN ?_ _ | refine Below.alloc ?_ (by first | (simp; done) | (simp; omega) | omega) _ | refine below_alloc ?_ _ | refine below_step ?_ (by assumption)))⟩
    · have h2' : decide (b < x) = false := by simpa using h2
      rw [if_neg h2] at hN
      rw [hN]
      clear hN
      go_enter Try.func47, Try.ntmps47
      go_wp2
      go_ret
      exact ⟨rfl, (by repeat (first | exact Below.refl _ _ | assumption | refine Below.setCell ?_ (by first | (simp; done) | (simp; omega) | omega) _ | refine Below.drew ?_ | refine below_drewN ?_ _ | refine Below.alloc ?_ (by first | (simp; done) | (simp; omega) | omega) _ | refine below_alloc ?_ _ | refine below_step ?_ (by assumption)))⟩
end Go.Proofs.Ytcpnipnaidihaaa
