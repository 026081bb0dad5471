/- Joined by merge.py from: RowsB JobW JobO. -/
import Derived.Test.YtmionebfepkolaaGreatDoorBase
import Derived.Test.YtmionebfepkolaaGreatDoorYJa
import Derived.Test.YtmionebfepkolaaGreatDoorProg
import Derived.Test.YtmionebfepkolaaGreatDoorAppend
import Derived.OwnWalk
set_option linter.unusedSimpArgs false
set_option linter.unusedVariables false
namespace Go.Proofs.YtmionebfepkolaaGreatDoor
open Go.RowKit

/-- len rows of c cells from (b, off) on, in a block below B: row k holds the cells of f (xs[k]). -/
def Rows {α : Type} (c : Nat) (f : α → List Value) (d : α) (w : World) (B : Nat) (A : Option Addr) (len : Nat) (xs : List α) : Prop :=
  xs.length = len ∧ (0 < len → ∃ b off, A = some ⟨b, off, none⟩ ∧ b < B ∧ ∀ k, k < len → ∀ j v, (f (xs[k]?.getD d))[j]? = some v → w.cell? ⟨b, off + k * c + j, none⟩ = some v)
section
variable {α : Type} {c : Nat} {f : α → List Value} {d : α} {w : World} {B : Nat} {A : Option Addr} {len : Nat} {xs : List α}
theorem Rows.at_ (h : Rows c f d w B A len xs) (k : Nat) (hk : k < len) :
    ∃ b off, A = some ⟨b, off, none⟩ ∧ b < B ∧ ∀ j v, (f (xs[k]?.getD d))[j]? = some v → w.cell? ⟨b, off + k * c + j, none⟩ = some v := by
  obtain ⟨b, off, h1, h2, h3⟩ := h.2 (by omega)
  exact ⟨b, off, h1, h2, h3 k hk⟩
theorem Rows.below {w' : World} (h : Rows c f d w B A len xs) (hb : Below B w w') : Rows c f d w' B A len xs := by
  refine ⟨h.1, fun h0 => ?_⟩
  obtain ⟨b, off, h1, h2, h3⟩ := h.2 h0
  refine ⟨b, off, h1, h2, fun k hk j v hv => ?_⟩
  rw [hb.cell (p := ⟨b, _, none⟩) h2]
  exact h3 k hk j v hv
theorem Rows.more {B' : Nat} (h : Rows c f d w B A len xs) (hb : B ≤ B') : Rows c f d w B' A len xs :=
  ⟨h.1, fun h0 => by obtain ⟨b, off, h1, h2, h3⟩ := h.2 h0; exact ⟨b, off, h1, by omega, h3⟩⟩
theorem Rows.mem (h : Rows c f d w B A len xs) {k : Nat} (hk : k < len) : xs[k]?.getD d ∈ xs := by
  have : k < xs.length := by rw [h.1]; exact hk
  rw [List.getElem?_eq_getElem this]; exact List.getElem_mem _
end
def int3 (x : Int × Int × Int) : List Value := [.int .i64 x.1, .int .i64 x.2.1, .int .i64 x.2.2]
theorem Rows.at3 {w : World} {B : Nat} {A : Option Addr} {len : Nat} {xs : List (Int × Int × Int)} (h : Rows 3 int3 (0,0,0) w B A len xs) (k : Nat) (hk : k < len) :
    ∃ b off, A = some ⟨b, off, none⟩ ∧ b < B ∧ w.cell? ⟨b, off + k * 3, none⟩ = some (.int .i64 (xs[k]?.getD (0,0,0)).1) ∧ w.cell? ⟨b, off + k * 3 + 1, none⟩ = some (.int .i64 (xs[k]?.getD (0,0,0)).2.1) ∧ w.cell? ⟨b, off + k * 3 + 2, none⟩ = some (.int .i64 (xs[k]?.getD (0,0,0)).2.2) := by
  obtain ⟨b, off, h1, h2, h3⟩ := h.at_ k hk
  exact ⟨b, off, h1, h2, by simpa using h3 0 _ rfl, h3 1 _ rfl, h3 2 _ rfl⟩
/-- A slice of pairs as it lies in a row of slices, with what it reads as. -/
abbrev RowU := (Option Addr × Nat × Nat) × List (Int × Int)
def sliceU (x : RowU) : List Value := [.slice x.1.1 x.1.2.1 x.1.2.2]
def dU : RowU := ((none, 0, 0), [])
theorem Rows.atU {w : World} {B : Nat} {A : Option Addr} {len : Nat} {xs : List RowU} (h : Rows 1 sliceU dU w B A len xs) (k : Nat) (hk : k < len) :
    ∃ b off, A = some ⟨b, off, none⟩ ∧ b < B ∧ w.cell? ⟨b, off + k, none⟩ = some (.slice (xs[k]?.getD dU).1.1 (xs[k]?.getD dU).1.2.1 (xs[k]?.getD dU).1.2.2) := by
  obtain ⟨b, off, h1, h2, h3⟩ := h.at_ k hk
  exact ⟨b, off, h1, h2, by simpa using h3 0 _ rfl⟩
end Go.Proofs.YtmionebfepkolaaGreatDoor

namespace Go.Proofs.YtmionebfepkolaaGreatDoor
open Go.RowKit

/-- A slice of texts. -/
def str1 (s : ByteArray) : List Value := [.string s]
abbrev Strs (w : World) (B : Nat) (A : Option Addr) (n : Nat) (ss : List ByteArray) : Prop := Rows 1 str1 ByteArray.empty w B A n ss
theorem Rows.atS {w : World} {B : Nat} {A : Option Addr} {n : Nat} {ss : List ByteArray} (h : Rows 1 str1 ByteArray.empty w B A n ss) (k : Nat) (hk : k < n) :
    ∃ b off, A = some ⟨b, off, none⟩ ∧ b < B ∧ w.cell? ⟨b, off + k, none⟩ = some (.string (ss[k]?.getD ByteArray.empty)) := by
  obtain ⟨b, off, h1, h2, h3⟩ := h.at_ k hk
  exact ⟨b, off, h1, h2, by simpa using h3 0 _ rfl⟩
/-- A slice of tasks. -/
def Plan (w : World) (B : Nat) (A : Option Addr) (len : Nat) (l : List Tk) : Prop :=
  l.length = len ∧ (0 < len → ∃ b off, A = some ⟨b, off, none⟩ ∧ b < B ∧ ∀ k, k < len →
    w.cell? ⟨b, off + k * 4, none⟩ = some (.string (tkA l k).nm) ∧ w.cell? ⟨b, off + k * 4 + 1, none⟩ = some (.int .i64 (tkA l k).dy) ∧ w.cell? ⟨b, off + k * 4 + 2, none⟩ = some (.int .i64 (tkA l k).mn) ∧
    ∃ A' n c, w.cell? ⟨b, off + k * 4 + 3, none⟩ = some (.slice A' n c) ∧ n ≤ c ∧ c ≤ 9223372036854775807 ∧ Strs w B A' n (tkA l k).af)
section
variable {w : World} {B : Nat} {A : Option Addr} {len : Nat} {l : List Tk}
theorem Plan.at_ (h : Plan w B A len l) (k : Nat) (hk : k < len) : ∃ b off, A = some ⟨b, off, none⟩ ∧ b < B ∧
    w.cell? ⟨b, off + k * 4, none⟩ = some (.string (tkA l k).nm) ∧ w.cell? ⟨b, off + k * 4 + 1, none⟩ = some (.int .i64 (tkA l k).dy) ∧ w.cell? ⟨b, off + k * 4 + 2, none⟩ = some (.int .i64 (tkA l k).mn) ∧
    ∃ A' n c, w.cell? ⟨b, off + k * 4 + 3, none⟩ = some (.slice A' n c) ∧ n ≤ c ∧ c ≤ 9223372036854775807 ∧ Strs w B A' n (tkA l k).af := by
  obtain ⟨b, off, h1, h2, h3⟩ := h.2 (by omega)
  exact ⟨b, off, h1, h2, h3 k hk⟩
theorem Plan.below {w' : World} (h : Plan w B A len l) (hb : Below B w w') : Plan w' B A len l := by
  refine ⟨h.1, fun h0 => ?_⟩
  obtain ⟨b, off, h1, h2, h3⟩ := h.2 h0
  refine ⟨b, off, h1, h2, fun k hk => ?_⟩
  obtain ⟨c1, c2, c3, A', n, c, c4, c5, c6, c7⟩ := h3 k hk
  rw [hb.cell (p := ⟨b, _, none⟩) h2, hb.cell (p := ⟨b, _, none⟩) h2, hb.cell (p := ⟨b, _, none⟩) h2, hb.cell (p := ⟨b, _, none⟩) h2]
  exact ⟨c1, c2, c3, A', n, c, c4, c5, c6, c7.below hb⟩
theorem Plan.more {B' : Nat} (h : Plan w B A len l) (hb : B ≤ B') : Plan w B' A len l :=
  ⟨h.1, fun h0 => by
    obtain ⟨b, off, h1, h2, h3⟩ := h.2 h0
    refine ⟨b, off, h1, by omega, fun k hk => ?_⟩
    obtain ⟨c1, c2, c3, A', n, c, c4, c5, c6, c7⟩ := h3 k hk
    exact ⟨c1, c2, c3, A', n, c, c4, c5, c6, c7.more hb⟩⟩
end
theorem Plan.go {w w' : World} {A : Option Addr} {len : Nat} {l : List Tk} (h : Plan w w.heap.size A len l) (hb : Below w.heap.size w w') : Plan w' w'.heap.size A len l := (h.below hb).more hb.size
/-- A task as it lies, with what its names read as. -/
abbrev TkR := (Option Addr × Nat × Nat) × Tk
def tk4 (x : TkR) : List Value := [.string x.2.nm, .int .i64 x.2.dy, .int .i64 x.2.mn, .slice x.1.1 x.1.2.1 x.1.2.2]
def dTR : TkR := ((none, 0, 0), t0)
theorem plan_of_rows {w : World} {B : Nat} {A : Option Addr} {len : Nat} {xs : List TkR} (h : Rows 4 tk4 dTR w B A len xs) (hg : ∀ x ∈ xs, (x.1.2.1 ≤ x.1.2.2 ∧ x.1.2.2 ≤ 9223372036854775807) ∧ Strs w B x.1.1 x.1.2.1 x.2.af) : Plan w B A len (xs.map (·.2)) := by
  refine ⟨by rw [List.length_map]; exact h.1, fun h0 => ?_⟩
  obtain ⟨b, off, h1, h2, h3⟩ := h.2 h0
  refine ⟨b, off, h1, h2, fun k hk => ?_⟩
  have hkl : k < xs.length := by rw [h.1]; exact hk
  have e : tkA (xs.map (·.2)) k = (xs[k]?.getD dTR).2 := by unfold tkA; rw [List.getElem?_map, List.getElem?_eq_getElem hkl]; rfl
  rw [e]
  obtain ⟨g1, g2⟩ := hg _ (h.mem hk)
  exact ⟨by simpa using h3 k hk 0 _ rfl, h3 k hk 1 _ rfl, h3 k hk 2 _ rfl, _, _, _, h3 k hk 3 _ rfl, g1.1, g1.2, g2⟩
end Go.Proofs.YtmionebfepkolaaGreatDoor

namespace Go.Proofs.YtmionebfepkolaaGreatDoor
open Go.RowKit

theorem jinfo_int : (Tryz.prog.info? 3).map (fun i => (i.zero, i.size, i.bytes)) = some (some (.int .i64 0), 1, 8) := by kernel_rfl
theorem jnews1 (W : World) (x : Value) (t : TypeId) : ∀ j u, ([x] : List Value)[j]? = some u → (W.alloc (.cells #[x] t)).cell? ((⟨W.heap.size, 0, none⟩ : Addr).add j) = some u := by
  intro j u hj
  cases j with
  | zero => simp at hj; subst hj; simp [Addr.add]
  | succ j => simp at hj
theorem jone1 (n : Int) : ∀ u ∈ ([.int .i64 n] : List Value), u.oneCell' = true := by intro u hu; simp at hu; subst hu; rfl
theorem jown_later {w w' : World} {base : Nat} {e : TypeId} {size : Nat} {v : Value} {n : Nat} {xs : List Value} (h : w.ownsRow base e size v n xs) (hb : Below w.heap.size w w') : w'.ownsRow base e size v n xs := by
  refine h.kept (row := none) ⟨hb.os, hb.tape, hb.output, hb.size, fun k hk _ => hb.block k hk⟩ ?_
  cases v.ownBlock <;> simp
theorem jown_mono {w : World} {base base' : Nat} {e : TypeId} {size : Nat} {v : Value} {n : Nat} {xs : List Value} (h : w.ownsRow base e size v n xs) (hb : base' ≤ base) : w.ownsRow base' e size v n xs := by
  obtain ⟨h1, h2⟩ := h
  refine ⟨h1, ?_⟩
  rcases h2 with h2 | ⟨g, cap, cur, a1, a2, a3⟩
  · exact .inl h2
  · exact .inr ⟨g, cap, cur, a1, by omega, a3⟩
/-- Places as numbers. -/
def iN (xs : List Nat) : List Int := xs.map fun (k : Nat) => (k : Int)
theorem iN_len (xs : List Nat) : (iN xs).length = xs.length := by simp [iN]
theorem iN_app (xs ys : List Nat) : iN (xs ++ ys) = iN xs ++ iN ys := by simp [iN]
theorem iN_get {xs : List Nat} {k : Nat} (h : k < xs.length) : (iN xs)[k]?.getD 0 = (xs[k] : Int) := by simp [iN, List.getElem?_eq_getElem h]
theorem iN_contains (xs : List Nat) (i : Nat) : (iN xs).contains (i : Int) = xs.contains i := by
  rw [Bool.eq_iff_iff, List.contains_iff_mem, List.contains_iff_mem]
  unfold iN
  rw [List.mem_map]
  exact ⟨fun ⟨x, h, e⟩ => by rw [← Int.ofNat.inj e]; exact h, fun h => ⟨i, h, rfl⟩⟩
theorem iN_all (xs ys : List Nat) : (iN ys).all (iN xs).contains = ys.all xs.contains := by
  have e : iN ys = ys.map fun (k : Nat) => (k : Int) := rfl
  rw [e, List.all_map]
  exact List.all_congr rfl fun x => iN_contains xs x
theorem iN_inj {xs ys : List Nat} (h : iN xs = iN ys) : xs = ys := by
  apply List.ext_getElem
  · have := congrArg List.length h; rw [iN_len, iN_len] at this; exact this
  · intro i h1 h2
    have := congrArg (fun z : List Int => z[i]?.getD 0) h
    simp only [iN_get h1, iN_get h2] at this
    exact Int.ofNat.inj this
/-- Cells of a row of ints of the call's own. -/
theorem jown_at {w : World} {base g n cap : Nat} {e : TypeId} {xs : List Int} (h : w.ownsRow base e 1 (.slice (some ⟨g, 0, none⟩) n cap) n (icells xs)) : g < w.heap.size ∧ base ≤ g ∧ (∀ k, k < n → w.cell? ⟨g, k, none⟩ = some (.int .i64 (gI xs k))) ∧ ∀ k, w.frozen? ⟨g, k, none⟩ = false := by
  have hfr := fun k => h.frozenAt k
  obtain ⟨A', cap', hv, _, _, hI, _⟩ := own_ints h
  injection hv with e1 e2 e3
  subst e1 e3
  refine ⟨?_, ?_, fun k hk => ?_, hfr⟩
  · rcases h.2 with ⟨h', _⟩ | ⟨g', cap', cur, h', hb, hg, _⟩
    · simp at h'
    · simp only [Value.slice.injEq, Option.some.injEq, Addr.mk.injEq, and_true, true_and] at h'
      obtain ⟨rfl, rfl⟩ := h'
      exact (Array.getElem?_eq_some_iff.1 hg).1
  · rcases h.2 with ⟨h', _⟩ | ⟨g', cap', cur, h', hb, hg, _⟩
    · simp at h'
    · simp only [Value.slice.injEq, Option.some.injEq, Addr.mk.injEq, and_true, true_and] at h'
      obtain ⟨rfl, rfl⟩ := h'
      exact hb
  · obtain ⟨b, off, hb, _, hc⟩ := hI.at_ k hk
    injection hb with hb
    injection hb with hb1 hb2 hb3
    subst hb1 hb2
    simpa [gI] using hc
theorem jcells_set (xs : List Int) (i : Nat) (v : Int) : (icells xs).set i (.int .i64 v) = icells (xs.set i v) := by simp [icells, List.map_set]
/-- A store into the row. -/
theorem jown_store {w : World} {base g n cap : Nat} {e : TypeId} {xs : List Int} (h : w.ownsRow base e 1 (.slice (some ⟨g, 0, none⟩) n cap) n (icells xs)) (i : Nat) (v : Int) : (w.setCell ⟨g, i, none⟩ (.int .i64 v)).ownsRow base e 1 (.slice (some ⟨g, 0, none⟩) n cap) n (icells (xs.set i v)) ∧ w.grownBy (w.setCell ⟨g, i, none⟩ (.int .i64 v)) (some g) := by
  have := h.stored i (.int .i64 v)
  rw [jcells_set] at this
  exact this
theorem jown_lt {w : World} {base : Nat} {v : Value} {n : Nat} {e : TypeId} {xs : List Int} (h : w.ownsRow base e 1 v n (icells xs)) : xs.length = n := by
  have := h.1; rw [icells_len] at this; omega
end Go.Proofs.YtmionebfepkolaaGreatDoor
