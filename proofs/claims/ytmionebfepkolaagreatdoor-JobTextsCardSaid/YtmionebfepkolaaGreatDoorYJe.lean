/- Joined by merge.py from: Open OpenR OpenT. -/
import Derived.Test.YtmionebfepkolaaGreatDoorBase
import Derived.ProofKit
import Derived.OpenShut
import Derived.Deep.Slices
import Derived.Deep.Fields
import Derived.ChangeSame
import Derived.Test.YtmionebfepkolaaGreatDoorYJi
import Derived.Test.YtmionebfepkolaaGreatDoorYJa
import Derived.SliceStrings
set_option linter.unusedSimpArgs false
set_option linter.unusedVariables false
namespace Go.Proofs.YtmionebfepkolaaGreatDoor
open Go.ChangeShapes Go.WideShapes Go.RowKit Go.Deep

/-- The types of the one-cell parts of fields that lie one behind the other. -/
def leavesF (L : TypeId → Option (List TypeId)) (C : TypeId → Nat) : Nat → List Field → Option (List TypeId)
  | _, [] => some []
  | acc, f :: fs => if f.offset = acc then (L f.type).bind fun l => if l.length = C f.type then (leavesF L C (acc + l.length) fs).map (l ++ ·) else none else none
/-- The types of the one-cell parts of a type. -/
def leaves (P : Program) : Nat → TypeId → Option (List TypeId)
  | 0, _ => none
  | n + 1, t => match P.underlying t with
    | some (.struct fs) => leavesF (leaves P n) P.cellsOf 0 fs.toList
    | some (.array k e) => (leaves P n e).bind fun l => if l.length = P.cellsOf e then some (List.replicate k l).flatten else none
    | _ => some [t]

theorem leavesF_spec {L : TypeId → Option (List TypeId)} {C : TypeId → Nat} : ∀ {fs : List Field} {acc : Nat} {ls : List TypeId}, leavesF L C acc fs = some ls → ∀ (j : Nat) (u : TypeId), ls[j]? = some u →
    ∃ (i : Nat) (f : Field) (l : List TypeId) (k : Nat), fs[i]? = some f ∧ L f.type = some l ∧ l.length = C f.type ∧ l[k]? = some u ∧ f.offset + k = acc + j := by
  intro fs
  induction fs with
  | nil => intro acc ls h j u hj; simp [leavesF] at h; subst h; simp at hj
  | cons f fs ih =>
    intro acc ls h j u hj
    simp only [leavesF] at h
    split at h
    · rename_i hoff
      cases hl : L f.type with
      | none => simp [hl] at h
      | some l =>
        simp only [hl, Option.bind_some] at h
        split at h
        · rename_i hlen
          cases hr : leavesF L C (acc + l.length) fs with
          | none => simp [hr] at h
          | some r =>
            simp only [hr, Option.map_some, Option.some.injEq] at h
            subst h
            by_cases hjl : j < l.length
            · rw [List.getElem?_append_left hjl] at hj
              exact ⟨0, f, l, j, rfl, hl, hlen, hj, by omega⟩
            · rw [List.getElem?_append_right (by omega)] at hj
              obtain ⟨i, g, l', k, h1, h2, h3, h4, h5⟩ := ih hr _ _ hj
              exact ⟨i + 1, g, l', k, by simpa using h1, h2, h3, h4, by omega⟩
        · cases h
    · cases h

theorem flatten_spec {l : List TypeId} : ∀ {k j : Nat} {u : TypeId}, (List.replicate k l).flatten[j]? = some u → ∃ i q, i < k ∧ l[q]? = some u ∧ j = i * l.length + q := by
  intro k
  induction k with
  | zero => intro j u h; simp at h
  | succ k ih =>
    intro j u h
    rw [List.replicate_succ, List.flatten_cons] at h
    by_cases hj : j < l.length
    · rw [List.getElem?_append_left hj] at h
      exact ⟨0, j, by omega, h, by omega⟩
    · rw [List.getElem?_append_right (by omega)] at h
      obtain ⟨i, q, h1, h2, h3⟩ := ih h
      refine ⟨i + 1, q, by omega, h2, ?_⟩
      rw [Nat.add_mul]; omega

section
variable {H : Type} {enc : TypeId × Value → H} {P : Program} {w : World} {base : Nat} {spare : Nat → Bool} {held : Bool}

theorem part_get {cs : List Value} {o c k : Nat} {v : Value} (h : ((cs.drop o).take c)[k]? = some v) : cs[o + k]? = some v := by
  rw [List.getElem?_take] at h
  split at h
  · rwa [List.getElem?_drop] at h
  · cases h

/-- Each one-cell part of a value has its own reading. -/
theorem leaf_of : ∀ (n : Nat) {t : TypeId} {ls : List TypeId}, leaves P n t = some ls → ∀ {fuel : Nat} {cs : List Value} {x : DataW H × List MemPlace}, DataW.trod enc P w base spare held fuel t cs = some x →
    ∀ (j : Nat) (u : TypeId), ls[j]? = some u → (∀ fs, P.underlying u ≠ some (.struct fs)) → (∀ k e, P.underlying u ≠ some (.array k e)) → ∃ v, cs[j]? = some v ∧ ∃ (m : Nat) (y : DataW H × List MemPlace), DataW.trod enc P w base spare held m u [v] = some y := by
  intro n
  induction n with
  | zero => intro t ls h; simp [leaves] at h
  | succ n ih =>
    intro t ls h fuel cs x hx j u hj hns hna
    simp only [leaves] at h
    split at h
    · rename_i fs hu
      obtain ⟨xs, m, _, _, hlen, hxl, hf⟩ := DataW.trod_struct hu hx
      obtain ⟨i, f, l, k, h1, h2, h3, h4, h5⟩ := leavesF_spec h j u hj
      have h1' : fs[i]? = some f := by simpa using h1
      have hi : i < xs.length := by rw [hxl]; exact (Array.getElem?_eq_some_iff.1 h1').1
      have hr := hf i f h1'
      rw [List.getElem?_eq_getElem hi] at hr
      obtain ⟨v, hv, hy⟩ := ih h2 hr k u h4 hns hna
      exact ⟨v, by have := part_get hv; rw [h5] at this; simpa using this, hy⟩
    · rename_i k e hu
      obtain ⟨xs, m, _, _, hlen, hxl, hf⟩ := DataW.trod_array hu hx
      cases hl : leaves P n e with
      | none => simp [hl] at h
      | some l =>
        simp only [hl, Option.bind_some] at h
        split at h
        · rename_i hle
          simp only [Option.some.injEq] at h
          subst h
          obtain ⟨i, q, h1, h2, h3⟩ := flatten_spec hj
          have hr := hf i h1
          rw [List.getElem?_eq_getElem (by omega)] at hr
          obtain ⟨v, hv, hy⟩ := ih hl hr q u h2 hns hna
          exact ⟨v, by have := part_get hv; rw [h3, hle]; exact this, hy⟩
        · cases h
    · simp only [Option.some.injEq] at h
      subst h
      have hj0 : j = 0 := by
        rcases j with _ | j
        · rfl
        · simp at hj
      subst hj0
      simp at hj
      subst hj
      rename_i h1 h2
      have hcs : ∃ v, cs = [v] := by
        cases fuel with
        | zero => simp [DataW.trod] at hx
        | succ m =>
          unfold DataW.trod at hx
          split at hx <;> first | exact ⟨_, rfl⟩ | (rename_i hh; exact absurd hh (h1 _)) | (rename_i hh; exact absurd hh (h2 _ _)) | (cases hx; done) | skip
      obtain ⟨v, rfl⟩ := hcs
      exact ⟨v, rfl, fuel, x, hx⟩

theorem wf_bd {n : Int} (h : (Lit.int .i64 n).wf = true) : -9223372036854775808 ≤ n ∧ n ≤ 9223372036854775807 := by
  simp [Lit.wf, IntKind.min, IntKind.max, IntKind.signed, IntKind.bits] at h
  omega
/-- An int leaf. -/
theorem leaf_int {n : Nat} {t u : TypeId} {ls : List TypeId} (hl : leaves P n t = some ls) {fuel : Nat} {cs : List Value} {x : DataW H × List MemPlace} (hx : DataW.trod enc P w base spare held fuel t cs = some x)
    (j : Nat) (hu : ls[j]? = some u) (ht : P.underlying u = some (.int .i64)) : ∃ a : Int, cs[j]? = some (.int .i64 a) ∧ -9223372036854775808 ≤ a ∧ a ≤ 9223372036854775807 := by
  obtain ⟨v, hv, m, y, hy⟩ := leaf_of n hl hx j u hu (by rw [ht]; simp) (by rw [ht]; simp)
  obtain ⟨a, ha, _, hw⟩ := DataW.trod_int ht hy
  simp at ha
  subst ha
  exact ⟨a, hv, wf_bd hw⟩
/-- A slice leaf's reading. -/
theorem leaf_slice {n : Nat} {t u e : TypeId} {ls : List TypeId} (hl : leaves P n t = some ls) {fuel : Nat} {cs : List Value} {x : DataW H × List MemPlace} (hx : DataW.trod enc P w base spare held fuel t cs = some x)
    (j : Nat) (hu : ls[j]? = some u) (ht : P.underlying u = some (.slice e)) : ∃ v, cs[j]? = some v ∧ ∃ (m : Nat) (y : DataW H × List MemPlace), DataW.trod enc P w base spare held m u [v] = some y :=
  leaf_of n hl hx j u hu (by rw [ht]; simp) (by rw [ht]; simp)

theorem addr_eq {w : World} {a : Addr} {k : Nat} {v : Value} (h : w.cell? (a.add k) = some v) (h0 : ∃ u, w.cell? (a.add 0) = some u) : a.add k = ⟨a.block, a.off + k, none⟩ := by
  obtain ⟨u, hu⟩ := h0
  have hsp : a.spot = none := by
    unfold World.cell? Addr.add at hu
    simp at hu
    split at hu
    · split at hu
      · cases hu
      · rename_i hh; simpa using hh
    · cases hu
  unfold Addr.add
  split
  · rename_i hk; subst hk
    cases a; simp_all
  · rfl
theorem addr_form {w : World} {a : Addr} (h0 : ∃ u, w.cell? (a.add 0) = some u) : a = ⟨a.block, a.off, none⟩ := by
  obtain ⟨u, hu⟩ := h0
  have := addr_eq (k := 0) hu ⟨u, hu⟩
  simpa [Addr.add] using this
theorem block_of_cell {w : World} {a : Addr} {v : Value} (h : w.cell? a = some v) : a.block < w.heap.size := by
  unfold World.cell? at h
  split at h
  · rename_i hh
    exact (Array.getElem?_eq_some_iff.1 hh).1
  · cases h

/-- A list out of its elements. -/
theorem list_of_fun {α : Type} {n : Nat} {p : Nat → α → Prop} (h : ∀ i, i < n → ∃ a, p i a) : ∃ xs : List α, xs.length = n ∧ ∀ i, i < n → ∃ a, xs[i]? = some a ∧ p i a := by
  induction n with
  | zero => exact ⟨[], rfl, fun i h => by omega⟩
  | succ n ih =>
    obtain ⟨xs, hl, hi⟩ := ih (fun i hi => h i (by omega))
    obtain ⟨a, ha⟩ := h n (by omega)
    refine ⟨xs ++ [a], by simp [hl], fun i h => ?_⟩
    by_cases hil : i < n
    · obtain ⟨q, h1, h2⟩ := hi i hil
      exact ⟨q, by rw [List.getElem?_append_left (by omega)]; exact h1, h2⟩
    · obtain rfl : i = n := by omega
      exact ⟨a, by rw [List.getElem?_append_right (by omega), hl]; simp, ha⟩
/-- A slice of pairs of ints that came in. -/
theorem open_pairs {t e i1 i2 : TypeId} (ht : P.underlying t = some (.slice e)) (hC : P.cellsOf e = 2) (hl : leaves P 8 e = some [i1, i2]) (h1 : P.underlying i1 = some (.int .i64)) (h2 : P.underlying i2 = some (.int .i64))
    {fuel : Nat} {v : Value} {x : DataW H × List MemPlace} (hx : DataW.trod enc P w base spare held fuel t [v] = some x) :
    ∃ A len cap xs, v = .slice A len cap ∧ len ≤ cap ∧ cap ≤ maxLen ∧ Pairs w w.heap.size A len xs ∧ ∀ p ∈ xs, (-9223372036854775808 ≤ p.1 ∧ p.1 ≤ 9223372036854775807) ∧ -9223372036854775808 ≤ p.2 ∧ p.2 ≤ 9223372036854775807 := by
  rcases open_slice ht hx with ⟨hcs, _⟩ | ⟨a, len, cap, m, n, D, Pl, hcs, hb, hlc, hcm, hm, _, hel⟩
  · simp at hcs
    subst hcs
    exact ⟨none, 0, 0, [], rfl, Nat.le_refl _, by decide, ⟨rfl, fun h => by omega⟩, fun p hp => by cases hp⟩
  · simp at hcs
    subst hcs
    have hlm : len ≤ m := by rw [hm]; split <;> omega
    have key : ∀ i, i < len → ∃ p : Int × Int, w.cell? (a.add (i * 2)) = some (.int .i64 p.1) ∧ w.cell? (a.add (i * 2 + 1)) = some (.int .i64 p.2) ∧ (-9223372036854775808 ≤ p.1 ∧ p.1 ≤ 9223372036854775807) ∧ -9223372036854775808 ≤ p.2 ∧ p.2 ≤ 9223372036854775807 := by
      intro i hi
      obtain ⟨cs', hc, htr⟩ := hel i (by omega)
      rw [hC] at hc
      obtain ⟨_, hlen, hat⟩ := World.cells?_some hc
      obtain ⟨p, hp, bp⟩ := leaf_int hl htr 0 rfl h1
      obtain ⟨q, hq, bq⟩ := leaf_int hl htr 1 rfl h2
      refine ⟨(p, q), ?_, ?_, bp, bq⟩
      · have := hat 0 (by omega)
        rw [hp] at this
        simpa [Addr.add] using this
      · have := hat 1 (by omega)
        rw [hq] at this
        rw [← this]
        congr 1
        exact (Go.Deep.add_add a (i * 2) 1).symm
    have hfun := list_of_fun key
    obtain ⟨xs, hxl, hxs⟩ := hfun
    refine ⟨some a, len, cap, xs, rfl, hlc, hcm, ⟨hxl, fun h0 => ?_⟩, ?_⟩
    · obtain ⟨p0, _, c0, _⟩ := hxs 0 h0
      have haf := addr_form ⟨_, by simpa using c0⟩
      refine ⟨a.block, a.off, congrArg some haf, by have := block_of_cell c0; simpa [Addr.add] using this, fun k hk => ?_⟩
      obtain ⟨p, hp, c1, c2, _⟩ := hxs k hk
      rw [addr_eq c1 ⟨_, by simpa using c0⟩] at c1
      rw [addr_eq c2 ⟨_, by simpa using c0⟩] at c2
      rw [hp]
      exact ⟨c1, by simpa [Nat.add_assoc] using c2⟩
    · intro p hp
      obtain ⟨i, hi, rfl⟩ := List.getElem_of_mem hp
      obtain ⟨q, hq, _, _, b⟩ := hxs i (by omega)
      rw [List.getElem?_eq_getElem hi] at hq
      cases hq
      exact b
theorem open_pairs_at {t e i1 i2 : TypeId} (ht : P.underlying t = some (.slice e)) (hC : P.cellsOf e = 2) (hl : leaves P 8 e = some [i1, i2]) (h1 : P.underlying i1 = some (.int .i64)) (h2 : P.underlying i2 = some (.int .i64))
    {fuel : Nat} {A : Option Addr} {len cap : Nat} {x : DataW H × List MemPlace} (hx : DataW.trod enc P w base spare held fuel t [.slice A len cap] = some x) :
    ∃ xs, len ≤ cap ∧ cap ≤ maxLen ∧ Pairs w w.heap.size A len xs ∧ ∀ p ∈ xs, (-9223372036854775808 ≤ p.1 ∧ p.1 ≤ 9223372036854775807) ∧ -9223372036854775808 ≤ p.2 ∧ p.2 ≤ 9223372036854775807 := by
  obtain ⟨A', l', c', xs, e, h⟩ := open_pairs ht hC hl h1 h2 hx
  injection e with e1 e2 e3
  subst e1 e2 e3
  exact ⟨xs, h⟩
end
theorem list1 {α : Type} {l : List α} (h : l.length = 1) : ∃ a, l = [a] := by match l, h with | [a], _ => exact ⟨a, rfl⟩
theorem list2 {α : Type} {l : List α} (h : l.length = 2) : ∃ a b, l = [a, b] := by match l, h with | [a, b], _ => exact ⟨a, b, rfl⟩
theorem list3 {α : Type} {l : List α} (h : l.length = 3) : ∃ a b c, l = [a, b, c] := by match l, h with | [a, b, c], _ => exact ⟨a, b, c, rfl⟩
theorem list4 {α : Type} {l : List α} (h : l.length = 4) : ∃ a b c d, l = [a, b, c, d] := by match l, h with | [a, b, c, d], _ => exact ⟨a, b, c, d, rfl⟩
theorem list6 {α : Type} {l : List α} (h : l.length = 6) : ∃ a b c d e f, l = [a, b, c, d, e, f] := by match l, h with | [a, b, c, d, e, f], _ => exact ⟨a, b, c, d, e, f, rfl⟩
/-- An aggregate by value: its cells. -/
theorem okWide_agg {P : Program} {w : World} {r : Reach} {base : Nat} {t : TypeId} {v : Value} {n : Nat} {ls : List TypeId} (hC : P.cellsOf t = n) (hl : leaves P 8 t = some ls) (hne : ls ≠ [t]) (h : Value.okWide P w r base t v) : ∃ l : List Value, v = .agg l.toArray ∧ l.length = n := by
  unfold Value.okWide at h
  split at h
  · obtain ⟨cs, rfl, hs, _⟩ := h
    exact ⟨cs.toList, rfl, by simpa [hC] using hs⟩
  · obtain ⟨cs, rfl, hs, _⟩ := h
    exact ⟨cs.toList, rfl, by simpa [hC] using hs⟩
  · rename_i h1 h2
    exfalso
    apply hne
    unfold leaves at hl
    split at hl
    · rename_i hh; exact absurd hh (h1 _)
    · rename_i hh; exact absurd hh (h2 _ _)
    · simpa using hl.symm
end Go.Proofs.YtmionebfepkolaaGreatDoor

namespace Go.Proofs.YtmionebfepkolaaGreatDoor
open Go.ChangeShapes Go.WideShapes Go.RowKit Go.Deep

section
variable {H : Type} {enc : TypeId × Value → H} {P : Program} {w : World} {base : Nat} {spare : Nat → Bool} {held : Bool}
/-- A slice that came in, opened row by row: each row of c cells is that of some a. -/
theorem open_rows {α : Type} {t e : TypeId} {c : Nat} (ht : P.underlying t = some (.slice e)) (hC : P.cellsOf e = c) (hc : 0 < c) (f : α → List Value) (d : α) (good : α → Prop)
    (hel : ∀ {fuel : Nat} {cs : List Value} {x : DataW H × List MemPlace}, cs.length = c → DataW.trod enc P w base spare held fuel e cs = some x → ∃ a, f a = cs ∧ good a)
    {fuel : Nat} {v : Value} {x : DataW H × List MemPlace} (hx : DataW.trod enc P w base spare held fuel t [v] = some x) :
    ∃ A len cap xs, v = .slice A len cap ∧ len ≤ cap ∧ cap ≤ maxLen ∧ Rows c f d w w.heap.size A len xs ∧ ∀ a ∈ xs, good a := by
  rcases open_slice ht hx with ⟨hcs, _⟩ | ⟨a, len, cap, m, n, D, Pl, hcs, hb, hlc, hcm, hm, _, hel'⟩
  · simp at hcs
    subst hcs
    exact ⟨none, 0, 0, [], rfl, Nat.le_refl _, by decide, ⟨rfl, fun h => by omega⟩, fun p hp => by cases hp⟩
  · simp at hcs
    subst hcs
    have hlm : len ≤ m := by rw [hm]; split <;> omega
    have key : ∀ i, i < len → ∃ p : α, (∀ j v, (f p)[j]? = some v → w.cell? (a.add (i * c + j)) = some v) ∧ (f p).length = c ∧ good p := by
      intro i hi
      obtain ⟨cs', hc', htr⟩ := hel' i (by omega)
      rw [hC] at hc'
      obtain ⟨_, hlen, hat⟩ := World.cells?_some hc'
      obtain ⟨p, hp, hg⟩ := hel (by simpa using hlen) htr
      refine ⟨p, fun j v hj => ?_, by rw [hp]; simpa using hlen, hg⟩
      rw [hp] at hj
      have hjc : j < c := by
        have := (List.getElem?_eq_some_iff.1 hj).1
        have h2 : cs'.length = c := by simpa using hlen
        omega
      have := hat j (by omega)
      rw [hj] at this
      rw [← this]
      congr 1
      exact (Go.Deep.add_add a (i * c) j).symm
    obtain ⟨xs, hxl, hxs⟩ := list_of_fun key
    refine ⟨some a, len, cap, xs, rfl, hlc, hcm, ⟨hxl, fun h0 => ?_⟩, ?_⟩
    · obtain ⟨p0, _, c0, hl0, _⟩ := hxs 0 h0
      obtain ⟨v0, hv0⟩ : ∃ v, (f p0)[0]? = some v := ⟨_, List.getElem?_eq_getElem (by omega)⟩
      have c00 := c0 0 v0 hv0
      have haf := addr_form ⟨_, by simpa using c00⟩
      refine ⟨a.block, a.off, congrArg some haf, by have := block_of_cell c00; simpa [Addr.add] using this, fun k hk j v hj => ?_⟩
      obtain ⟨p, hp, c1, _⟩ := hxs k hk
      rw [hp] at hj
      have c2 := c1 j v hj
      rw [addr_eq c2 ⟨_, by simpa using c00⟩] at c2
      simpa [Nat.add_assoc] using c2
    · intro p hp
      obtain ⟨i, hi, rfl⟩ := List.getElem_of_mem hp
      obtain ⟨q, hq, _, _, b⟩ := hxs i (by omega)
      rw [List.getElem?_eq_getElem hi] at hq
      cases hq
      exact b
theorem open_rows_at {α : Type} {t e : TypeId} {c : Nat} (ht : P.underlying t = some (.slice e)) (hC : P.cellsOf e = c) (hc : 0 < c) (f : α → List Value) (d : α) (good : α → Prop)
    (hel : ∀ {fuel : Nat} {cs : List Value} {x : DataW H × List MemPlace}, cs.length = c → DataW.trod enc P w base spare held fuel e cs = some x → ∃ a, f a = cs ∧ good a)
    {fuel : Nat} {A : Option Addr} {len cap : Nat} {x : DataW H × List MemPlace} (hx : DataW.trod enc P w base spare held fuel t [.slice A len cap] = some x) :
    ∃ xs, len ≤ cap ∧ cap ≤ maxLen ∧ Rows c f d w w.heap.size A len xs ∧ ∀ a ∈ xs, good a := by
  obtain ⟨A', l', c', xs, e, h⟩ := open_rows ht hC hc f d good hel hx
  injection e with e1 e2 e3
  subst e1 e2 e3
  exact ⟨xs, h⟩
def bd64 (n : Int) : Prop := -9223372036854775808 ≤ n ∧ n ≤ 9223372036854775807
/-- An element of three ints. -/
theorem el_int3 {e i1 i2 i3 : TypeId} (hl : leaves P 8 e = some [i1, i2, i3]) (h1 : P.underlying i1 = some (.int .i64)) (h2 : P.underlying i2 = some (.int .i64)) (h3 : P.underlying i3 = some (.int .i64))
    {fuel : Nat} {cs : List Value} {x : DataW H × List MemPlace} (hlen : cs.length = 3) (hx : DataW.trod enc P w base spare held fuel e cs = some x) : ∃ a, int3 a = cs ∧ (bd64 a.1 ∧ bd64 a.2.1 ∧ bd64 a.2.2) := by
  obtain ⟨a, b, c, rfl⟩ := list3 hlen
  obtain ⟨p, hp, bp⟩ := leaf_int hl hx 0 rfl h1
  obtain ⟨q, hq, bq⟩ := leaf_int hl hx 1 rfl h2
  obtain ⟨r, hr, br⟩ := leaf_int hl hx 2 rfl h3
  simp at hp hq hr
  subst hp hq hr
  exact ⟨(p, q, r), rfl, bp, bq, br⟩
/-- An element that is a slice of pairs. -/
theorem el_pairs {t e i1 i2 : TypeId} (ht : P.underlying t = some (.slice e)) (hC : P.cellsOf e = 2) (hl : leaves P 8 e = some [i1, i2]) (h1 : P.underlying i1 = some (.int .i64)) (h2 : P.underlying i2 = some (.int .i64))
    {fuel : Nat} {cs : List Value} {x : DataW H × List MemPlace} (hlen : cs.length = 1) (hx : DataW.trod enc P w base spare held fuel t cs = some x) :
    ∃ a, sliceU a = cs ∧ ((a.1.2.1 ≤ a.1.2.2 ∧ a.1.2.2 ≤ 9223372036854775807) ∧ Pairs w w.heap.size a.1.1 a.1.2.1 a.2) := by
  obtain ⟨v, rfl⟩ := list1 hlen
  obtain ⟨A, len, cap, xs, rfl, h1, h2, h3, _⟩ := open_pairs ht hC hl h1 h2 hx
  exact ⟨((A, len, cap), xs), rfl, ⟨h1, by unfold maxLen at h2; omega⟩, h3⟩
end
end Go.Proofs.YtmionebfepkolaaGreatDoor

namespace Go.Proofs.YtmionebfepkolaaGreatDoor
open Go.ChangeShapes Go.WideShapes Go.RowKit Go.Deep

/-- What a task of a plan that came in has. -/
def gTk (W : World) (x : TkR) : Prop := ((x.1.2.1 ≤ x.1.2.2 ∧ x.1.2.2 ≤ 9223372036854775807) ∧ Strs W W.heap.size x.1.1 x.1.2.1 x.2.af) ∧ (x.2.nm.size ≤ 9223372036854775807 ∧ ∀ s ∈ x.2.af, s.size ≤ 9223372036854775807) ∧ bd64 x.2.dy ∧ bd64 x.2.mn
section
variable {H : Type} {enc : TypeId × Value → H} {P : Program} {w : World} {base : Nat} {spare : Nat → Bool} {held : Bool}
theorem leaf_string {n : Nat} {t u : TypeId} {ls : List TypeId} (hl : leaves P n t = some ls) {fuel : Nat} {cs : List Value} {x : DataW H × List MemPlace} (hx : DataW.trod enc P w base spare held fuel t cs = some x)
    (j : Nat) (hu : ls[j]? = some u) (ht : P.underlying u = some .string) : ∃ a : ByteArray, cs[j]? = some (.string a) ∧ a.size ≤ 9223372036854775807 := by
  obtain ⟨v, hv, m, y, hy⟩ := leaf_of n hl hx j u hu (by rw [ht]; simp) (by rw [ht]; simp)
  obtain ⟨a, ha, _, hw⟩ := DataW.trod_string ht hy
  simp at ha
  subst ha
  exact ⟨a, hv, by unfold maxLen at hw; omega⟩
/-- A slice of texts that came in. -/
theorem open_strs {t e : TypeId} (ht : P.underlying t = some (.slice e)) (he : P.underlying e = some .string) (hc : P.cellsOf e = 1) {fuel : Nat} {v : Value} {x : DataW H × List MemPlace} (hx : DataW.trod enc P w base spare held fuel t [v] = some x) :
    ∃ A len cap ss, v = .slice A len cap ∧ (len ≤ cap ∧ cap ≤ 9223372036854775807) ∧ Strs w w.heap.size A len ss ∧ ∀ s ∈ ss, s.size ≤ 9223372036854775807 := by
  rcases open_strings ht he hc hx with ⟨hcs, _⟩ | ⟨a, len, cap, ss, hcs, hb, hlc, hcm, hss, -, hel, hsz⟩
  · simp at hcs
    subst hcs
    exact ⟨none, 0, 0, [], rfl, ⟨Nat.le_refl _, by decide⟩, ⟨rfl, fun h => by omega⟩, fun s h => by cases h⟩
  · simp at hcs
    subst hcs
    have hlm : len ≤ ss.length := by rw [hss]; split <;> omega
    refine ⟨some a, len, cap, ss.take len, rfl, ⟨hlc, by unfold maxLen at hcm; omega⟩, ⟨by rw [List.length_take]; omega, fun h0 => ?_⟩, fun s h => by have := hsz s (List.mem_of_mem_take h); unfold maxLen at this; omega⟩
    have c0 := hel 0 (by omega)
    have haf := addr_form ⟨_, c0⟩
    refine ⟨a.block, a.off, congrArg some haf, by have := block_of_cell c0; simpa [Addr.add] using this, fun k hk j v hj => ?_⟩
    cases j with
    | zero =>
      have c1 := hel k (by omega)
      rw [addr_eq c1 ⟨_, c0⟩] at c1
      simp [str1] at hj
      subst hj
      rw [List.getElem?_take, if_pos hk]
      simpa [List.getD_eq_getElem?_getD] using c1
    | succ j => simp [str1] at hj
/-- A task that came in. -/
theorem el_task {e i1 i2 i3 i4 s : TypeId} (hl : leaves P 8 e = some [i1, i2, i3, i4]) (h1 : P.underlying i1 = some .string) (h2 : P.underlying i2 = some (.int .i64)) (h3 : P.underlying i3 = some (.int .i64)) (h4 : P.underlying i4 = some (.slice s)) (h5 : P.underlying s = some .string) (h6 : P.cellsOf s = 1)
    {fuel : Nat} {cs : List Value} {x : DataW H × List MemPlace} (hlen : cs.length = 4) (hx : DataW.trod enc P w base spare held fuel e cs = some x) : ∃ a, tk4 a = cs ∧ gTk w a := by
  obtain ⟨a, b, c, d, rfl⟩ := list4 hlen
  obtain ⟨p, hp, bp⟩ := leaf_string hl hx 0 rfl h1
  obtain ⟨q, hq, bq⟩ := leaf_int hl hx 1 rfl h2
  obtain ⟨r, hr, br⟩ := leaf_int hl hx 2 rfl h3
  obtain ⟨v, hv, m, y, hy⟩ := leaf_slice hl hx 3 rfl h4
  obtain ⟨A, len, cap, ss, rfl, g1, g2, g3⟩ := open_strs h4 h5 h6 hy
  simp at hp hq hr hv
  subst hp hq hr hv
  exact ⟨((A, len, cap), ⟨p, q, r, ss⟩), rfl, ⟨g1, g2⟩, ⟨bp, g3⟩, bq, br⟩
end
/-- The plan that came in. -/
theorem plan_in {w : World} {A : Option Addr} {len : Nat} {xs : List TkR} (h : Rows 4 tk4 dTR w w.heap.size A len xs) (hg : ∀ x ∈ xs, gTk w x) : Plan w w.heap.size A len (xs.map (·.2)) := plan_of_rows h fun x hx => (hg x hx).1
theorem tkA_in {xs : List TkR} {i : Nat} (hi : i < (xs.map (·.2)).length) : ∃ x ∈ xs, tkA (xs.map (·.2)) i = x.2 := by
  rw [List.length_map] at hi
  refine ⟨xs[i], List.getElem_mem hi, ?_⟩
  rw [tkA_get (by rw [List.length_map]; exact hi), List.getElem_map]
theorem sml_in {w : World} {xs : List TkR} (hg : ∀ x ∈ xs, gTk w x) (hl : (xs.map (·.2)).length ≤ 1000) (ha : ∀ i, i < (xs.map (·.2)).length → (tkA (xs.map (·.2)) i).af.length ≤ 1000) : Sml (xs.map (·.2)) := by
  refine ⟨hl, fun i hi => ?_, ha, fun i hi s hs => ?_⟩
  · obtain ⟨x, hx, e⟩ := tkA_in hi; rw [e]; exact (hg x hx).2.1.1
  · obtain ⟨x, hx, e⟩ := tkA_in hi; rw [e] at hs; exact (hg x hx).2.1.2 s hs
end Go.Proofs.YtmionebfepkolaaGreatDoor
