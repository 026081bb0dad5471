/- Plans of the call's own; slices.Clone of tasks and of texts. -/
import Derived.Test.YtgijekhlbkfanaaJobW
import Derived.Test.YtgijekhlbkfanaaJobI
import Derived.Test.YtgijekhlbkfanaaJobO
import Derived.Test.YtgijekhlbkfanaaStepSrc
import Derived.Test.YtgijekhlbkfanaaTail
import Derived.Shelf.RegionOpenPlain
import Derived.Lib.SliceRun
set_option linter.unusedSimpArgs false
set_option linter.unusedVariables false
namespace Go.Proofs.Ytgijekhlbkfanaa
open Go.RowKit Go.Shelf
attribute [local go_sem] Later.cell Same.cell

theorem info_task : (Try.prog.info? 43).map (fun i => (i.zero, i.size, i.bytes)) = some (some (.agg #[.string ByteArray.empty, .int .i64 0, .int .i64 0, .slice none 0 0]), 4, 56) := by kernel_rfl
theorem info_str : (Try.prog.info? 9).map (fun i => (i.zero, i.size, i.bytes)) = some (some (.string ByteArray.empty), 1, 16) := by kernel_rfl
/-- What is good of a task as it lies. -/
def okR (w : World) (B : Nat) (x : TkR) : Prop := (x.1.2.1 ≤ x.1.2.2 ∧ x.1.2.2 ≤ 9223372036854775807) ∧ Strs w B x.1.1 x.1.2.1 x.2.af
theorem plan_rows {w : World} {B : Nat} {A : Option Addr} {len : Nat} {l : List Tk} (h : Plan w B A len l) : ∃ xs : List TkR, xs.map (·.2) = l ∧ Rows 4 tk4 dTR w B A len xs ∧ ∀ x ∈ xs, okR w B x := by
  obtain ⟨hl, h0⟩ := h
  by_cases hz : len = 0
  · subst hz
    have : l = [] := List.eq_nil_of_length_eq_zero hl
    subst this
    exact ⟨[], rfl, ⟨rfl, fun h => absurd h (Nat.lt_irrefl 0)⟩, fun x hx => by cases hx⟩
  · obtain ⟨b, off, hA, hb, hk⟩ := h0 (by omega)
    have hc : ∀ k, ∃ a : Option Addr × Nat × Nat, k < len → w.cell? ⟨b, off + k * 4 + 3, none⟩ = some (.slice a.1 a.2.1 a.2.2) ∧ (a.2.1 ≤ a.2.2 ∧ a.2.2 ≤ 9223372036854775807) ∧ Strs w B a.1 a.2.1 (tkA l k).af := fun k => by
      by_cases h : k < len
      · obtain ⟨-, -, -, A', n, c, c4, c5, c6, c7⟩ := hk k h
        exact ⟨(A', n, c), fun _ => ⟨c4, ⟨c5, c6⟩, c7⟩⟩
      · exact ⟨(none, 0, 0), fun h' => absurd h' h⟩
    obtain ⟨f, hf⟩ := Classical.axiomOfChoice hc
    refine ⟨(List.range len).map fun k => (f k, tkA l k), ?_, ⟨by simp, fun _ => ⟨b, off, hA, hb, fun k hkl j v hv => ?_⟩⟩, fun x hx => ?_⟩
    · apply List.ext_getElem
      · simp [hl]
      · intro k h1 h2
        simp [tkA, List.getElem?_eq_getElem h2]
    · have hg : ((List.range len).map fun k => (f k, tkA l k))[k]?.getD dTR = (f k, tkA l k) := by simp [List.getElem?_range hkl]
      rw [hg] at hv
      obtain ⟨c1, c2, c3, -⟩ := hk k hkl
      have c4 := (hf k hkl).1
      rcases j with _ | _ | _ | _ | j
      · simp [tk4] at hv; subst hv; exact c1
      · simp [tk4] at hv; subst hv; exact c2
      · simp [tk4] at hv; subst hv; exact c3
      · simp [tk4] at hv; subst hv; exact c4
      · simp [tk4] at hv
    · obtain ⟨k, hk', rfl⟩ := List.mem_map.1 hx
      exact (hf k (List.mem_range.1 hk')).2
def tcel (xs : List TkR) : List Value := xs.flatMap tk4
theorem tcel_app (l m : List TkR) : tcel (l ++ m) = tcel l ++ tcel m := by simp [tcel]
theorem tcel_len (l : List TkR) : (tcel l).length = l.length * 4 := by
  induction l with
  | nil => rfl
  | cons x l ih => simp only [tcel, List.flatMap_cons, List.length_append, List.length_cons, tk4, List.length_nil] at *; omega
theorem tcel_get : ∀ (l : List TkR) (k j : Nat), k < l.length → j < 4 → (tcel l)[k * 4 + j]? = (tk4 (l[k]?.getD dTR))[j]? := by
  intro l
  induction l with
  | nil => intro k j h; exact absurd h (by simp)
  | cons x l ih =>
    intro k j h hj
    have e0 : tcel (x :: l) = tk4 x ++ tcel l := rfl
    have el : (tk4 x).length = 4 := rfl
    rw [e0]
    cases k with
    | zero =>
      rw [List.getElem?_append_left (by rw [el]; omega)]
      simp
    | succ k =>
      rw [List.getElem?_append_right (by rw [el]; omega), el, show (k + 1) * 4 + j - 4 = k * 4 + j by omega, ih k j (by simpa using h) hj]
      simp
theorem tcel_one (l : List TkR) : ∀ u ∈ tcel l, u.oneCell' = true := by
  intro u hu
  simp only [tcel, List.mem_flatMap, tk4, List.mem_cons, List.not_mem_nil, or_false] at hu
  obtain ⟨x, _, rfl | rfl | rfl | rfl⟩ := hu <;> rfl
theorem tcel_set : ∀ (l : List TkR) (k j : Nat) (v : Value) (y : TkR), k < l.length → j < 4 → tk4 y = (tk4 (l[k]?.getD dTR)).set j v → (tcel l).set (k * 4 + j) v = tcel (l.set k y) := by
  intro l
  induction l with
  | nil => intro k j v y h; exact absurd h (by simp)
  | cons x l ih =>
    intro k j v y h hj hy
    have e0 : ∀ z : TkR, ∀ m, tcel (z :: m) = tk4 z ++ tcel m := fun z m => rfl
    have el : (tk4 x).length = 4 := rfl
    rw [e0]
    cases k with
    | zero =>
      rw [List.set_append_left _ _ (by rw [el]; omega), List.set_cons_zero, e0, hy]
      simp
    | succ k =>
      rw [List.set_append_right _ _ (by rw [el]; omega), el, show (k + 1) * 4 + j - 4 = k * 4 + j by omega, List.set_cons_succ, e0, ih k j v y (by simpa using h) hj (by simpa using hy)]
theorem Rows.cellsP {w : World} {B : Nat} {A : Option Addr} {len : Nat} {xs : List TkR} (h : Rows 4 tk4 dTR w B A len xs) : Cells w A (tcel xs) := by
  by_cases h0 : len = 0
  · left
    have : xs = [] := List.eq_nil_of_length_eq_zero (by rw [h.1, h0])
    rw [this]; rfl
  · right
    obtain ⟨b, off, h1, h2, h3⟩ := h.2 (by omega)
    refine ⟨b, off, h1, fun j u hj => ?_⟩
    have hlt : j < (tcel xs).length := (List.getElem?_eq_some_iff.1 hj).1
    rw [tcel_len, h.1] at hlt
    have hq : j / 4 < len := by omega
    have e : j = j / 4 * 4 + j % 4 := by omega
    have h4 := tcel_get xs (j / 4) (j % 4) (by rw [h.1]; exact hq) (Nat.mod_lt _ (by omega))
    rw [← e, hj] at h4
    have := h3 (j / 4) hq (j % 4) u h4.symm
    rw [show off + j / 4 * 4 + j % 4 = off + j by omega] at this
    exact this
def scel (ss : List ByteArray) : List Value := ss.map fun s => .string s
theorem scel_len (ss : List ByteArray) : (scel ss).length = ss.length := by simp [scel]
theorem scel_one (ss : List ByteArray) : ∀ u ∈ scel ss, u.oneCell' = true := by
  intro u hu
  obtain ⟨x, _, rfl⟩ := List.mem_map.1 hu
  rfl
theorem Strs.cells {w : World} {B : Nat} {A : Option Addr} {n : Nat} {ss : List ByteArray} (h : Strs w B A n ss) : Cells w A (scel ss) := by
  by_cases h0 : n = 0
  · left
    have : ss = [] := List.eq_nil_of_length_eq_zero (by rw [h.1, h0])
    rw [this]; rfl
  · right
    obtain ⟨b, off, h1, h2, h3⟩ := h.2 (by omega)
    refine ⟨b, off, h1, fun j u hj => ?_⟩
    have hlt : j < ss.length := by have := (List.getElem?_eq_some_iff.1 hj).1; rw [scel_len] at this; exact this
    have hu : u = .string (ss[j]?.getD ByteArray.empty) := by
      unfold scel at hj
      rw [List.getElem?_map, List.getElem?_eq_getElem hlt] at hj
      rw [List.getElem?_eq_getElem hlt]
      simpa using hj.symm
    subst hu
    have := h3 j (by rw [← h.1]; exact hlt) 0 _ rfl
    simpa using this
theorem Rows.nil0 {w : World} {B c : Nat} {α : Type} {f : α → List Value} {d : α} {A : Option Addr} {n : Nat} {ss : List α} (h : Rows c f d w B A n ss) (hA : A = none) : n = 0 := by
  rcases Nat.eq_zero_or_pos n with h0 | h0
  · exact h0
  · obtain ⟨b, off, h1, -⟩ := h.2 h0
    rw [hA] at h1; cases h1
set_option maxHeartbeats 2000000 in
theorem cloneK_any (A : Option Addr) (n c : Nat) (l : List TkR) (w : World) (hm : n ≤ 100000) (hx : Rows 4 tk4 dTR w w.heap.size A n l) :
    Calls Try.prog 108 #[.slice A n c] w fun e w' => (∃ v, e = .returned v ∧ w'.ownsRow w.heap.size 43 4 v n (tcel l)) ∧ Below w.heap.size w w' := by
  obtain ⟨i0, hi, hz0, hz1, hz2⟩ := info_parts info_task
  have hn := hx.1
  have q22 := fun W a n k => Lib.run_eql_slice_nil (P := Try.prog) W 31 43 a n k 0 0 Try.underlying31
  have HC : Hid (Cells w A (tcel l)) := Lib.hid (by first | exact Rows.cellsP hx | exact Strs.cells hx)
  have HN := Lib.hid (fun h => Rows.nil0 hx h)
  clear hx
  cases A with
  | none =>
    have hn0 := HN.out rfl
    subst hn0
    have hl0 : l = [] := List.eq_nil_of_length_eq_zero hn
    subst hl0
    clear HC HN hi hz0 hz1 hz2
    go_enter Try.func108, Try.ntmps108
    go_wp2
    go_ret
    exact ⟨⟨_, rfl, World.ownsRow_nil _ _ _ _⟩, Below.refl _ _⟩
  | some ad =>
    go_enter Try.func108, Try.ntmps108
    go_wp2_with (at_builtin; refine wpList_append_src rfl _ _ 31 rfl w.heap.size 43 i0 (.agg #[.string ByteArray.empty, .int .i64 0, .int .i64 0, .slice none 0 0]) 4 56 Try.underlying31 hi hz0 hz1 hz2 rfl (by decide) (.slice (some ⟨w.heap.size, 0, none⟩) 0 0) 0 [] rfl (World.ownsRow_made w #[] 0 (Nat.le_refl _) (Nat.zero_le _) rfl) (by simp) (some ad) n c (tcel l) rfl (by rw [tcel_len, hn]; try omega) (by simp) ?qc2 (tcel_one l) (by unfold maxLen; omega) (by omega) (by simp) ?_)
    case qc2 =>
      rcases HC.out with h | ⟨b', off', h1, h2⟩
      · exact .inl h
      · exact .inr ⟨b', off', h1, fun j u hj => Lib.cell?_alloc_some _ (h2 j u hj)⟩
    intro v' w1 hown hgrow hnil
    have hO := Lib.hid hown
    clear hown
    have hB : Below w.heap.size w w1 := ((Below.refl _ w).alloc (Nat.le_refl _) _).grown hgrow (by simp) (by intro k hk; simp [Value.ownBlock] at hk; omega)
    go_wp2
    go_ret
    exact ⟨⟨v', rfl, by simpa using hO.out⟩, hB⟩
set_option maxHeartbeats 2000000 in
theorem cloneS_any (A : Option Addr) (n c : Nat) (l : List ByteArray) (w : World) (hm : n ≤ 100000) (hx : Strs w w.heap.size A n l) :
    Calls Try.prog 109 #[.slice A n c] w fun e w' => (∃ v, e = .returned v ∧ w'.ownsRow w.heap.size 9 1 v n (scel l)) ∧ Below w.heap.size w w' := by
  obtain ⟨i0, hi, hz0, hz1, hz2⟩ := info_parts info_str
  have hn := hx.1
  have q22 := fun W a n k => Lib.run_eql_slice_nil (P := Try.prog) W 41 9 a n k 0 0 Try.underlying41
  have HC : Hid (Cells w A (scel l)) := Lib.hid (by first | exact Rows.cellsP hx | exact Strs.cells hx)
  have HN := Lib.hid (fun h => Rows.nil0 hx h)
  clear hx
  cases A with
  | none =>
    have hn0 := HN.out rfl
    subst hn0
    have hl0 : l = [] := List.eq_nil_of_length_eq_zero hn
    subst hl0
    clear HC HN hi hz0 hz1 hz2
    go_enter Try.func109, Try.ntmps109
    go_wp2
    go_ret
    exact ⟨⟨_, rfl, World.ownsRow_nil _ _ _ _⟩, Below.refl _ _⟩
  | some ad =>
    go_enter Try.func109, Try.ntmps109
    go_wp2_with (at_builtin; refine wpList_append_src rfl _ _ 41 rfl w.heap.size 9 i0 (.string ByteArray.empty) 1 16 Try.underlying41 hi hz0 hz1 hz2 rfl (by decide) (.slice (some ⟨w.heap.size, 0, none⟩) 0 0) 0 [] rfl (World.ownsRow_made w #[] 0 (Nat.le_refl _) (Nat.zero_le _) rfl) (by simp) (some ad) n c (scel l) rfl (by rw [scel_len, hn]; try omega) (by simp) ?qc2 (scel_one l) (by unfold maxLen; omega) (by omega) (by simp) ?_)
    case qc2 =>
      rcases HC.out with h | ⟨b', off', h1, h2⟩
      · exact .inl h
      · exact .inr ⟨b', off', h1, fun j u hj => Lib.cell?_alloc_some _ (h2 j u hj)⟩
    intro v' w1 hown hgrow hnil
    have hO := Lib.hid hown
    clear hown
    have hB : Below w.heap.size w w1 := ((Below.refl _ w).alloc (Nat.le_refl _) _).grown hgrow (by simp) (by intro k hk; simp [Value.ownBlock] at hk; omega)
    go_wp2
    go_ret
    exact ⟨⟨v', rfl, by simpa using hO.out⟩, hB⟩
end Go.Proofs.Ytgijekhlbkfanaa
