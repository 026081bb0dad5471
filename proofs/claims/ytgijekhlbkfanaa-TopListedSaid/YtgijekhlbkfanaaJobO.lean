/- Rows of ints and bools that the call made, for the plans. No program is named but for the types' sizes. -/
import Derived.Test.YtgijekhlbkfanaaProg
import Derived.Test.YtgijekhlbkfanaaAppend
import Derived.Test.YtgijekhlbkfanaaJobL
import Derived.OwnWalk
set_option linter.unusedSimpArgs false
set_option linter.unusedVariables false
namespace Go.Proofs.Ytgijekhlbkfanaa
open Go.RowKit

theorem jinfo_int : (Try.prog.info? 3).map (fun i => (i.zero, i.size, i.bytes)) = some (some (.int .i64 0), 1, 8) := by kernel_rfl
theorem jnews1 (W : World) (x : Value) (t : TypeId) : ∀ j u, ([x] : List Value)[j]? = some u → (W.alloc (.cells #[x] t)).cell? ((⟨W.heap.size, 0, none⟩ : Addr).add j) = some u := by
  intro j u hj
  cases j with
  | zero => simp at hj; subst hj; simp [Addr.add]
  | succ j => simp at hj
theorem jone1 (n : Int) : ∀ u ∈ ([.int .i64 n] : List Value), u.oneCell' = true := by intro u hu; simp at hu; subst hu; rfl
theorem jown_later {w w' : World} {base : Nat} {e : TypeId} {size : Nat} {v : Value} {n : Nat} {xs : List Value} (h : w.ownsRow base e size v n xs) (hb : Below w.heap.size w w') : w'.ownsRow base e size v n xs := by
  refine h.kept (row := none) ⟨hb.os, hb.tape, hb.output, hb.size, fun k hk _ => hb.block k hk⟩ ?_
  cases v.ownBlock <;> simp
theorem jown_mono {w : World} {base base' : Nat} {e : TypeId} {size : Nat} {v : Value} {n : Nat} {xs : List Value} (h : w.ownsRow base e size v n xs) (hb : base' ≤ base) : w.ownsRow base' e size v n xs := by
  obtain ⟨h1, h2⟩ := h
  refine ⟨h1, ?_⟩
  rcases h2 with h2 | ⟨g, cap, cur, a1, a2, a3⟩
  · exact .inl h2
  · exact .inr ⟨g, cap, cur, a1, by omega, a3⟩
/-- Places as numbers. -/
def iN (xs : List Nat) : List Int := xs.map fun (k : Nat) => (k : Int)
theorem iN_len (xs : List Nat) : (iN xs).length = xs.length := by simp [iN]
theorem iN_app (xs ys : List Nat) : iN (xs ++ ys) = iN xs ++ iN ys := by simp [iN]
theorem iN_get {xs : List Nat} {k : Nat} (h : k < xs.length) : (iN xs)[k]?.getD 0 = (xs[k] : Int) := by simp [iN, List.getElem?_eq_getElem h]
theorem iN_contains (xs : List Nat) (i : Nat) : (iN xs).contains (i : Int) = xs.contains i := by
  rw [Bool.eq_iff_iff, List.contains_iff_mem, List.contains_iff_mem]
  unfold iN
  rw [List.mem_map]
  exact ⟨fun ⟨x, h, e⟩ => by rw [← Int.ofNat.inj e]; exact h, fun h => ⟨i, h, rfl⟩⟩
theorem iN_all (xs ys : List Nat) : (iN ys).all (iN xs).contains = ys.all xs.contains := by
  have e : iN ys = ys.map fun (k : Nat) => (k : Int) := rfl
  rw [e, List.all_map]
  exact List.all_congr rfl fun x => iN_contains xs x
theorem iN_inj {xs ys : List Nat} (h : iN xs = iN ys) : xs = ys := by
  apply List.ext_getElem
  · have := congrArg List.length h; rw [iN_len, iN_len] at this; exact this
  · intro i h1 h2
    have := congrArg (fun z : List Int => z[i]?.getD 0) h
    simp only [iN_get h1, iN_get h2] at this
    exact Int.ofNat.inj this
/-- Cells of a row of ints of the call's own. -/
theorem jown_at {w : World} {base g n cap : Nat} {e : TypeId} {xs : List Int} (h : w.ownsRow base e 1 (.slice (some ⟨g, 0, none⟩) n cap) n (icells xs)) : g < w.heap.size ∧ base ≤ g ∧ (∀ k, k < n → w.cell? ⟨g, k, none⟩ = some (.int .i64 (gI xs k))) ∧ ∀ k, w.frozen? ⟨g, k, none⟩ = false := by
  have hfr := fun k => h.frozenAt k
  obtain ⟨A', cap', hv, _, _, hI, _⟩ := own_ints h
  injection hv with e1 e2 e3
  subst e1 e3
  refine ⟨?_, ?_, fun k hk => ?_, hfr⟩
  · rcases h.2 with ⟨h', _⟩ | ⟨g', cap', cur, h', hb, hg, _⟩
    · simp at h'
    · simp only [Value.slice.injEq, Option.some.injEq, Addr.mk.injEq, and_true, true_and] at h'
      obtain ⟨rfl, rfl⟩ := h'
      exact (Array.getElem?_eq_some_iff.1 hg).1
  · rcases h.2 with ⟨h', _⟩ | ⟨g', cap', cur, h', hb, hg, _⟩
    · simp at h'
    · simp only [Value.slice.injEq, Option.some.injEq, Addr.mk.injEq, and_true, true_and] at h'
      obtain ⟨rfl, rfl⟩ := h'
      exact hb
  · obtain ⟨b, off, hb, _, hc⟩ := hI.at_ k hk
    injection hb with hb
    injection hb with hb1 hb2 hb3
    subst hb1 hb2
    simpa [gI] using hc
theorem jcells_set (xs : List Int) (i : Nat) (v : Int) : (icells xs).set i (.int .i64 v) = icells (xs.set i v) := by simp [icells, List.map_set]
/-- A store into the row. -/
theorem jown_store {w : World} {base g n cap : Nat} {e : TypeId} {xs : List Int} (h : w.ownsRow base e 1 (.slice (some ⟨g, 0, none⟩) n cap) n (icells xs)) (i : Nat) (v : Int) : (w.setCell ⟨g, i, none⟩ (.int .i64 v)).ownsRow base e 1 (.slice (some ⟨g, 0, none⟩) n cap) n (icells (xs.set i v)) ∧ w.grownBy (w.setCell ⟨g, i, none⟩ (.int .i64 v)) (some g) := by
  have := h.stored i (.int .i64 v)
  rw [jcells_set] at this
  exact this
theorem jown_lt {w : World} {base : Nat} {v : Value} {n : Nat} {e : TypeId} {xs : List Int} (h : w.ownsRow base e 1 v n (icells xs)) : xs.length = n := by
  have := h.1; rw [icells_len] at this; omega
end Go.Proofs.Ytgijekhlbkfanaa
