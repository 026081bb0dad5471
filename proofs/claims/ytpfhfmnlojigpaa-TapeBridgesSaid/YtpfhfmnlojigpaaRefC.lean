/- Tapes: the reference's Without; Added of both. -/
import Derived.Test.YtpfhfmnlojigpaaRefB
set_option linter.unusedSimpArgs false
set_option linter.unusedVariables false
namespace Go.Proofs.Ytpfhfmnlojigpaa
open Go.RowKit
attribute [local go_sem] Later.cell Same.cell

/-- Block b holds just these cells. -/
def Bk (W : World) (b : Nat) (c : Array Value) (t : TypeId) : Prop := W.heap[b]? = some (.cells c t (0, 0))
theorem Bk.new (W : World) (c : Array Value) (t : TypeId) : Bk (W.alloc (.cells c t)) W.heap.size c t := by
  show (W.heap.push _)[W.heap.size]? = _
  simp
theorem Bk.lt {W : World} {b : Nat} {c : Array Value} {t : TypeId} (h : Bk W b c t) : b < W.heap.size := (Array.getElem?_eq_some_iff.1 h).1
theorem Bk.later {W W' : World} {b : Nat} {c : Array Value} {t : TypeId} (h : Bk W b c t) (hb : Below W.heap.size W W') : Bk W' b c t := (hb.block b h.lt).trans h
theorem Bk.grown {W W' : World} {b : Nat} {c : Array Value} {t : TypeId} {row : Option Nat} (h : Bk W b c t) (hg : W.grownBy W' row) (hr : row ≠ some b) : Bk W' b c t := (hg.block b h.lt (fun e => hr e.symm)).trans h
theorem Bk.cell {W : World} {b : Nat} {c : Array Value} {t : TypeId} (h : Bk W b c t) (o : Nat) : W.cell? ⟨b, o, none⟩ = c[o]? ∧ W.frozen? ⟨b, o, none⟩ = false := by
  unfold Bk at h
  exact ⟨by simp [World.cell?, h], by simp [World.frozen?, h]⟩
theorem Bk.news {W : World} {b : Nat} {ty : TypeId} {t : Tp} (h : Bk W b #[.int .i64 t.1, .int .i64 t.2.1, .int .i64 t.2.2] ty) : ∀ j u, (int3 t)[j]? = some u → W.cell? ((⟨b, 0, none⟩ : Addr).add j) = some u := by
  intro j u hj
  rw [Addr.add_lit, Nat.zero_add, (h.cell j).1, ← hj]
  unfold int3
  simp
def adE (n : Int) (l : List Tp) (t : Tp) : Int := if vNet n l then (if vT n t then (if l.length = 10 then 4 else 0) else 1) else 1
def adL (n : Int) (l : List Tp) (t : Tp) : List Tp := if adE n l t = 0 then l ++ [t] else []
end Go.Proofs.Ytpfhfmnlojigpaa
