/- Joined by merge.py from: JobU2 OwnD JobDl JobDf JobDg JobU7 JobX JobX2 JobU4 JobS1 MixN JobU6 JobU8 JobU9 JobU3 SlkF. -/
import Derived.Test.YtgijekhlbkfanaaTlB
import Derived.Test.YtgijekhlbkfanaaJobQ9
import Derived.Test.YtgijekhlbkfanaaJobR5
import Derived.Laws.OwnMore
import Derived.Lib.SliceRun
import Derived.Deep.RegionLaw
import Derived.Shelf.RegionOpenPlain
import Derived.Test.YtgijekhlbkfanaaJobF
import Derived.Test.YtgijekhlbkfanaaJobD
import Derived.Test.YtgijekhlbkfanaaCellA
import Derived.Maps.AppendAt
import Derived.Test.YtgijekhlbkfanaaJobR6
import Derived.Test.YtgijekhlbkfanaaMix
import Derived.Test.YtgijekhlbkfanaaAppend
import Derived.Deep.DeepCutAuto
import Derived.Laws.EntriesVeiled
set_option linter.unusedSimpArgs false
set_option linter.unusedVariables false
namespace Go.Proofs.Ytgijekhlbkfanaa
open Go.RowKit
attribute [local go_sem] Later.cell Same.cell

theorem own_strs {w : World} {base : Nat} {e : TypeId} {v : Value} {n : Nat} {ss : List ByteArray} (h : w.ownsRow base e 1 v n (scel ss)) :
    ∃ A cap, v = .slice A n cap ∧ n ≤ cap ∧ cap ≤ maxLen ∧ Strs w w.heap.size A n ss ∧ ∀ b off, A = some ⟨b, off, none⟩ → base ≤ b := by
  obtain ⟨h1, h2⟩ := h
  rw [scel_len] at h1
  have hl : ss.length = n := by omega
  rcases h2 with ⟨rfl, rfl⟩ | ⟨g, cap, cur, rfl, hb, hg, hnc, hm, hcs, ht⟩
  · exact ⟨none, 0, rfl, Nat.le_refl _, Nat.zero_le _, ⟨hl, fun h => absurd h (by omega)⟩, fun b off h => by cases h⟩
  · have hlt : g < w.heap.size := (Array.getElem?_eq_some_iff.1 hg).1
    have hcell : ∀ j, j < n → w.cell? ⟨g, 0 + j, none⟩ = (scel ss)[j]? := by
      intro j hj
      rw [← ht, Nat.zero_add]
      simp [World.cell?, hg, List.getElem?_take, hj]
    refine ⟨some ⟨g, 0, none⟩, cap, rfl, hnc, hm, ⟨hl, fun h0 => ⟨g, 0, rfl, hlt, fun k hk j u hu => ?_⟩⟩, fun b off h => by injection h with h; injection h with h h'; omega⟩
    have hj : j = 0 := by
      have := (List.getElem?_eq_some_iff.1 hu).1
      simpa [str1] using this
    subst hj
    rw [Nat.add_zero, Nat.mul_one, hcell k hk]
    have hkl : k < ss.length := by omega
    unfold scel
    rw [List.getElem?_map, List.getElem?_eq_getElem hkl]
    have : u = .string ss[k] := by
      rw [List.getElem?_eq_getElem hkl] at hu
      simpa [str1] using hu.symm
    rw [this]; rfl
theorem Strs.store {w : World} {B g i n : Nat} {A : Option Addr} {ss : List ByteArray} {v : Value} (h : Strs w B A n ss) (hn : 0 < n → ∀ b off, A = some ⟨b, off, none⟩ → b ≠ g) : Strs (w.setCell ⟨g, i, none⟩ v) B A n ss := by
  refine ⟨h.1, fun h0 => ?_⟩
  obtain ⟨b, off, h1, h2, h3⟩ := h.2 h0
  refine ⟨b, off, h1, h2, fun k hk j u hu => ?_⟩
  have hne := hn h0 b off h1
  rw [World.cell?_setCell_other _ _ _ _ (by intro e; injection e with e; exact hne e.symm)]
  exact h3 k hk j u hu
/-- A plan of the call's own, in block g. -/
structure OPl (W : World) (base g cap n : Nat) (xs : List TkR) : Prop where
  own : W.ownsRow base 43 4 (.slice (some ⟨g, 0, none⟩) n cap) n (tcel xs)
  ok : ∀ x ∈ xs, okR W W.heap.size x
  nb : ∀ x ∈ xs, 0 < x.1.2.1 → ∀ b off, x.1.1 = some ⟨b, off, none⟩ → b ≠ g
theorem OPl.len {W : World} {base g cap n : Nat} {xs : List TkR} (h : OPl W base g cap n xs) : xs.length = n := by
  have := h.own.1; rw [tcel_len] at this; omega
theorem OPl.at_ {W : World} {base g cap n : Nat} {xs : List TkR} (h : OPl W base g cap n xs) : g < W.heap.size ∧ base ≤ g ∧ (∀ k j, k < n → j < 4 → W.cell? ⟨g, k * 4 + j, none⟩ = (tk4 (xs[k]?.getD dTR))[j]?) ∧ ∀ k, W.frozen? ⟨g, k, none⟩ = false := by
  have hl := h.len
  have hfr := fun k => h.own.frozenAt k
  refine ⟨?_, ?_, fun k j hk hj => (h.own.cellAt (k * 4 + j) (by omega)).trans (tcel_get xs k j (by omega) hj), hfr⟩
  · rcases h.own.2 with ⟨h', _⟩ | ⟨g', cap', cur, h', hb, hg, _⟩
    · simp at h'
    · simp only [Value.slice.injEq, Option.some.injEq, Addr.mk.injEq, and_true, true_and] at h'
      obtain ⟨rfl, rfl⟩ := h'
      exact (Array.getElem?_eq_some_iff.1 hg).1
  · rcases h.own.2 with ⟨h', _⟩ | ⟨g', cap', cur, h', hb, hg, _⟩
    · simp at h'
    · simp only [Value.slice.injEq, Option.some.injEq, Addr.mk.injEq, and_true, true_and] at h'
      obtain ⟨rfl, rfl⟩ := h'
      exact hb
theorem OPl.rows {W : World} {base g cap n : Nat} {xs : List TkR} (h : OPl W base g cap n xs) : Rows 4 tk4 dTR W W.heap.size (some ⟨g, 0, none⟩) n xs := by
  obtain ⟨h1, -, h3, -⟩ := h.at_
  refine ⟨h.len, fun h0 => ⟨g, 0, rfl, h1, fun k hk j v hv => ?_⟩⟩
  have hj : j < 4 := by
    have := (List.getElem?_eq_some_iff.1 hv).1
    simpa [tk4] using this
  rw [Nat.zero_add, h3 k j hk hj]
  exact hv
theorem OPl.plan {W : World} {base g cap n : Nat} {xs : List TkR} (h : OPl W base g cap n xs) : Plan W W.heap.size (some ⟨g, 0, none⟩) n (xs.map (·.2)) := plan_of_rows h.rows fun x hx => h.ok x hx
theorem okR.go {w w' : World} {x : TkR} (h : okR w w.heap.size x) (hb : Below w.heap.size w w') : okR w' w'.heap.size x := ⟨h.1, (h.2.below hb).more hb.size⟩
theorem OPl.later {W W' : World} {base g cap n : Nat} {xs : List TkR} (h : OPl W base g cap n xs) (hb : Below W.heap.size W W') : OPl W' base g cap n xs :=
  ⟨jown_later h.own hb, fun x hx => (h.ok x hx).go hb, h.nb⟩
theorem OPl.store {W : World} {base g cap n k j : Nat} {xs : List TkR} {v : Value} {y : TkR} (h : OPl W base g cap n xs) (hk : k < n) (hj : j < 4) (hy : tk4 y = (tk4 (xs[k]?.getD dTR)).set j v) (ho : okR W W.heap.size y) (hn : 0 < y.1.2.1 → ∀ b off, y.1.1 = some ⟨b, off, none⟩ → b ≠ g) :
    OPl (W.setCell ⟨g, k * 4 + j, none⟩ v) base g cap n (xs.set k y) := by
  have hst : ∀ x, okR W W.heap.size x → (0 < x.1.2.1 → ∀ b off, x.1.1 = some ⟨b, off, none⟩ → b ≠ g) → okR (W.setCell ⟨g, k * 4 + j, none⟩ v) (W.setCell ⟨g, k * 4 + j, none⟩ v).heap.size x := fun x h1 h2 => by
    rw [World.size_setCell]
    exact ⟨h1.1, h1.2.store h2⟩
  refine ⟨?_, fun x hx => ?_, fun x hx => ?_⟩
  · rw [← tcel_set xs k j v y (by rw [h.len]; exact hk) hj hy]
    exact (h.own.stored (k * 4 + j) v).1
  · rcases List.mem_or_eq_of_mem_set hx with hx | rfl
    · exact hst x (h.ok x hx) (h.nb x hx)
    · exact hst _ ho hn
  · rcases List.mem_or_eq_of_mem_set hx with hx | rfl
    · exact h.nb x hx
    · exact hn
theorem own_tasks {w : World} {base : Nat} {v : Value} {n : Nat} {xs : List TkR} (h : w.ownsRow base 43 4 v n (tcel xs)) (hn : 0 < n) : ∃ g cap, v = .slice (some ⟨g, 0, none⟩) n cap ∧ n ≤ cap ∧ cap ≤ maxLen := by
  have h1 := h.1
  rw [tcel_len] at h1
  rcases h.2 with ⟨rfl, e⟩ | ⟨g, cap, cur, rfl, hb, hg, hnc, hm, hcs, ht⟩
  · omega
  · exact ⟨g, cap, rfl, hnc, hm⟩
/-- What the loop of copied keeps. -/
def CoR (l : List Tk) (w : World) (g cap : Nat) (k' : Value) (W : World) : Prop := ∃ (k : Nat) (xs : List TkR), k ≤ l.length ∧ k' = .int .i64 (k : Int) ∧ xs.map (·.2) = l ∧ Hid (OPl W w.heap.size g cap l.length xs) ∧ Below w.heap.size w W
set_option maxRecDepth 20000 in
set_option maxHeartbeats 16000000 in
theorem copied_any (A : Option Addr) (len cap : Nat) (l : List Tk) (w : World) (hP : okP l) (hx : Plan w w.heap.size A len l) :
    Calls Try.prog 82 #[.slice A len cap] w fun e w' => (∃ g cap' xs, e = .returned (.slice (some ⟨g, 0, none⟩) len cap') ∧ (len ≤ cap' ∧ cap' ≤ maxLen) ∧ xs.map (·.2) = l ∧ OPl w' w.heap.size g cap' len xs) ∧ Below w.heap.size w w' := by
  obtain rfl : l.length = len := hx.1
  obtain ⟨xs0, hm0, hr0, hg0⟩ := plan_rows hx
  have hL := hP.len
  have c1 := cloneK_any A l.length cap xs0 w (by omega) hr0
  have c2 := fun A n c ss W (hn : n ≤ 100000) (h : Strs W W.heap.size A n ss) => cloneS_any A n c ss W hn h
  have HP := Lib.hid hP
  have HG0 := Lib.hid hg0
  have HM0 := Lib.hid hm0
  have HR0 := Lib.hid hr0
  have C1 := Lib.hid c1
  have C2 := Lib.hid c2
  clear c1 c2 hP hg0 hm0 hr0 hx
  go_enter Try.func82, Try.ntmps82
  go_wp2_with fail
  refine C1.out.mono ?_
  rintro e w1 ⟨⟨v1, rfl, ho1⟩, hb1⟩
  obtain ⟨g, cap1, rfl, hq1, hq2⟩ := own_tasks ho1 HP.out.pos
  have hs1 := hb1.size
  have hgb : w.heap.size ≤ g := by
    rcases ho1.2 with ⟨h', _⟩ | ⟨g', cap', cur, h', hb, hg, _⟩
    · simp at h'
    · simp only [Value.slice.injEq, Option.some.injEq, Addr.mk.injEq, and_true, true_and] at h'
      omega
  have HO1 : Hid (OPl w1 w.heap.size g cap1 l.length xs0) := Lib.hid ⟨ho1, fun x hx => (HG0.out x hx).go hb1, fun x hx h0 b off he => by
    obtain ⟨h1, h2⟩ := HG0.out x hx
    obtain ⟨b', off', e1, e2, -⟩ := h2.2 h0
    rw [he] at e1
    injection e1 with e1
    injection e1 with e1 e3
    omega⟩
  have HB1 := Lib.hid hb1
  have HQ1 := Lib.hid hq1
  clear ho1 hb1 hq1 C1 HG0 HR0
  go_wp2
  go_loopw [9] (fun i W => CoR l w g cap1 i W) (fun i _ => l.length - (intOf i).toNat)
  case atStart => exact ⟨0, xs0, Nat.zero_le _, rfl, HM0.out, HO1, HB1.out⟩
  case round =>
    obtain ⟨k, xs, hk, rfl, hmx, HO, hB⟩ := hrel
    have hbs := hB.size
    by_cases hlt : k < l.length
    · obtain ⟨hgl, hgb2, hgc, hgf⟩ := HO.out.at_
      have hxl := HO.out.len
      have hkx : k < xs.length := by omega
      have hmem : xs[k] ∈ xs := List.getElem_mem hkx
      have hxk : xs[k]?.getD dTR = xs[k] := by rw [List.getElem?_eq_getElem hkx]; rfl
      have hc3 := hgc k 3 hlt (by omega)
      rw [hxk] at hc3
      have hok := HO.out.ok _ hmem
      have haf : xs[k].2.af.length ≤ 10 := by
        have h1 := HP.out.few k hlt
        have h2 : tkA l k = xs[k].2 := by unfold tkA; rw [← hmx, List.getElem?_map, List.getElem?_eq_getElem hkx]; rfl
        rwa [h2] at h1
      have hst := fun (v : Value) (y : TkR) W (hb : Below wr.heap.size wr W) => (HO.out.later hb).store (k := k) (j := 3) (v := v) (y := y) hlt (by omega)
      rw [hxk] at hst
      have hms : ∀ a, (xs.set k (a, xs[k].2)).map (·.2) = l := fun a => by
        rw [List.map_set, hmx]
        apply List.ext_getElem?
        intro q
        rw [List.getElem?_set]
        by_cases hq : k = q
        · subst hq
          rw [if_pos rfl, if_pos hlt, ← hmx, List.getElem?_map, List.getElem?_eq_getElem hkx]; rfl
        · rw [if_neg hq]
      generalize xs[k] = x at *
      obtain ⟨⟨A', n, c⟩, t⟩ := x
      obtain ⟨hnc, hS⟩ := hok
      change n ≤ c ∧ c ≤ _ at hnc
      change Strs wr wr.heap.size A' n t.af at hS
      change wr.cell? _ = some (.slice A' n c) at hc3
      change t.af.length ≤ 10 at haf
      have hn10 : n ≤ 10 := by have := hS.1; omega
      have c3 := C2.out A' n c t.af wr (by omega) hS
      have C3 := Lib.hid c3
      have HST := Lib.hid hst
      have HMS := Lib.hid hms
      have HB := Lib.hid hB
      have hf3 := hgf (k * 4 + 3)
      have hk1 : (k : Int) < l.length := by omega
      have hk2 : ¬ l.length ≤ k := by omega
      clear c3 hst hms hmem hxk hgc hgf hS hnc hB HO
      go_wp2_with fail
      refine C3.out.mono ?_
      rintro e w5 ⟨⟨v5, rfl, ho5⟩, hb5⟩
      obtain ⟨A5, cap5, rfl, hm1, hm2, hS5, hn5⟩ := own_strs ho5
      have hc8 : w5.cell? ⟨g, k * 4 + 3, none⟩ = some (.slice A' n c) := (hb5.cell (p := ⟨g, _, none⟩) hgl).trans hc3
      have hf8 : w5.frozen? ⟨g, k * 4 + 3, none⟩ = false := (hb5.frozen (p := ⟨g, _, none⟩) hgl).trans hf3
      have HO9 := Lib.hid (HST.out (.slice A5 n cap5) ((A5, n, cap5), t) w5 hb5 rfl ⟨⟨hm1, hm2⟩, hS5⟩ (fun _ b off he => by have := hn5 b off he; omega))
      have HB5 := Lib.hid (HB.out.trans (hb5.mono hbs))
      have hgs5 : w.heap.size ≤ g := hgb
      clear ho5 hb5 hS5 hn5 hc3 hf3
      go_wp2
      go_roundw
      case rel => exact ⟨k + 1, _, by omega, by go_num, HMS.out (A5, n, cap5), HO9, HB5.out.setCell (p := ⟨g, k * 4 + 3, none⟩) hgb _⟩
      case measure => simp [intOf]; omega
    · have hkl : k = l.length := by omega
      have hk1 : ¬ (k : Int) < l.length := by omega
      have HB := Lib.hid hB
      have HMX := Lib.hid hmx
      clear hB hmx
      go_wp2
      go_ret
      exact ⟨⟨g, cap1, rfl, ⟨HQ1.out, hq2⟩, xs, HMX.out, HO.out⟩, HB.out⟩
end Go.Proofs.Ytgijekhlbkfanaa

namespace Go.Proofs.Ytgijekhlbkfanaa
open Go.RowKit

def setL : List Value → Nat → List Value → List Value
  | xs, _, [] => xs
  | xs, o, v :: vs => setL (xs.set o v) (o + 1) vs
theorem setL_len : ∀ (vs xs : List Value) (o : Nat), (setL xs o vs).length = xs.length := by
  intro vs
  induction vs with
  | nil => intro xs o; rfl
  | cons v vs ih => intro xs o; show (setL (xs.set o v) (o + 1) vs).length = _; rw [ih]; simp
theorem setL_get : ∀ (vs xs : List Value) (o j : Nat), (setL xs o vs)[j]? = if o ≤ j ∧ j < o + vs.length ∧ j < xs.length then vs[j - o]? else xs[j]? := by
  intro vs
  induction vs with
  | nil => intro xs o j; show xs[j]? = _; rw [if_neg (by simp; omega)]
  | cons v vs ih =>
    intro xs o j
    show (setL (xs.set o v) (o + 1) vs)[j]? = _
    rw [ih, List.length_set, List.length_cons]
    by_cases h1 : o + 1 ≤ j ∧ j < o + 1 + vs.length ∧ j < xs.length
    · rw [if_pos h1, if_pos (by omega), show j - o = (j - (o + 1)) + 1 by omega, List.getElem?_cons_succ]
    · rw [if_neg h1, List.getElem?_set]
      by_cases h2 : o = j
      · subst h2
        rw [if_pos rfl]
        by_cases h3 : o < xs.length
        · rw [if_pos h3, if_pos (by omega), Nat.sub_self]; rfl
        · rw [if_neg h3, if_neg (by omega), List.getElem?_eq_none (by omega)]
      · rw [if_neg h2, if_neg (by omega)]
theorem own_setL {base g n cap size : Nat} {e : TypeId} : ∀ (vs xs : List Value) (o : Nat) (w : World), w.ownsRow base e size (.slice (some ⟨g, 0, none⟩) n cap) n xs →
    (w.setCells g o vs).ownsRow base e size (.slice (some ⟨g, 0, none⟩) n cap) n (setL xs o vs) ∧ w.grownBy (w.setCells g o vs) (some g) := by
  intro vs
  induction vs with
  | nil => intro xs o w h; exact ⟨h, rfl, rfl, rfl, Nat.le_refl _, fun _ _ _ => rfl⟩
  | cons v vs ih =>
    intro xs o w h
    obtain ⟨h1, h2⟩ := h.stored o v
    obtain ⟨h3, h4⟩ := ih (xs.set o v) (o + 1) _ h1
    exact ⟨h3, h4.os.trans h2.os, h4.tape.trans h2.tape, h4.output.trans h2.output, Nat.le_trans h2.size h4.size, fun k hk hne => (h4.block k (Nat.lt_of_lt_of_le hk h2.size) hne).trans (h2.block k hk hne)⟩
theorem own_cut {base g n cap size m : Nat} {e : TypeId} {xs : List Value} {w : World} (h : w.ownsRow base e size (.slice (some ⟨g, 0, none⟩) n cap) n xs) (hm : m ≤ n) : w.ownsRow base e size (.slice (some ⟨g, 0, none⟩) m cap) m (xs.take (m * size)) := by
  have hmn : m * size ≤ n * size := Nat.mul_le_mul_right _ hm
  refine ⟨by rw [List.length_take, h.1]; exact Nat.min_eq_left hmn, ?_⟩
  rcases h.2 with ⟨h', _⟩ | ⟨g', cap', cur, h', hb, hg, hnc, hcm, hcs, ht⟩
  · simp at h'
  · simp only [Value.slice.injEq, Option.some.injEq, Addr.mk.injEq, and_true, true_and] at h'
    obtain ⟨rfl, rfl⟩ := h'
    refine .inr ⟨g, cap, cur, rfl, hb, hg, by omega, hcm, hcs, ?_⟩
    rw [← ht, List.take_take, Nat.min_eq_left hmn]
theorem tcells_take (l : List Tp) (k : Nat) (hk : k ≤ l.length) : (tcells l).take (k * 3) = tcells (l.take k) := by
  have h : tcells l = tcells (l.take k) ++ tcells (l.drop k) := by rw [← tcells_app, List.take_append_drop]
  rw [h, List.take_left' (by rw [tcells_len, List.length_take, Nat.min_eq_left hk])]
theorem tcells_drop (l : List Tp) (k : Nat) (hk : k ≤ l.length) : (tcells l).drop (k * 3) = tcells (l.drop k) := by
  have h : tcells l = tcells (l.take k) ++ tcells (l.drop k) := by rw [← tcells_app, List.take_append_drop]
  rw [h, List.drop_left' (by rw [tcells_len, List.length_take, Nat.min_eq_left hk])]
/-- What stands in the row when the tape i is taken out and the last place cleared. -/
theorem cut_cells (l : List Tp) (i : Nat) (hi : i < l.length) (zs : List Value) : (setL (setL (tcells l) (i * 3) ((tcells l).drop ((i + 1) * 3))) ((l.length - 1) * 3) zs).take ((l.length - 1) * 3) = tcells (l.eraseIdx i) := by
  rw [List.eraseIdx_eq_take_drop_succ, tcells_app, ← tcells_take l i (by omega), ← tcells_drop l (i + 1) (by omega)]
  have hl := tcells_len l
  apply List.ext_getElem?
  intro j
  rw [List.getElem?_take, List.getElem?_append, List.length_take, hl, setL_get, setL_get, setL_len, hl, List.length_drop, hl, List.getElem?_take, List.getElem?_drop, List.getElem?_drop]
  by_cases h1 : j < (l.length - 1) * 3
  · rw [if_pos h1, if_neg (by omega)]
    by_cases h2 : j < i * 3
    · rw [if_neg (by omega), if_pos (by omega), if_pos h2]
    · rw [if_pos (by omega), if_neg (by omega)]
      congr 1; omega
  · rw [if_neg h1, if_neg (by omega)]
    symm
    rw [List.getElem?_eq_none]
    omega
theorem run_clear3 {P : Program} (w : World) (t e ty : TypeId) (z : Value) (ht : P.underlying t = some (.slice e)) (hv : ∀ w, (zeroValue e).run P w = .ok z w) (zs : List Value) (hz : (Builtin.zeroCells z.cells 1).toList = zs) (h1 : ∀ v ∈ zs, v.oneCell' = true) (b o c : Nat)
    (hc : ∀ j, j < zs.length → (w.cell? ⟨b, o + j, none⟩).isSome = true) (hf : ∀ j, j < zs.length → w.frozen? ⟨b, o + j, none⟩ = false) :
    (Builtin.clear_ #[t] ty #[.slice (some ⟨b, o, none⟩) 1 c]).run P w = .ok (.tuple #[]) (w.setCells b o zs) := by
  have hst := run_storeCells_cells (P := P) b o zs 0 w (by simpa using hc) (by simpa using hf) h1
  simp only [Nat.add_zero] at hst
  simp [Builtin.clear_, run_underlying ht, hv, hz, hst]
end Go.Proofs.Ytgijekhlbkfanaa

namespace Go.Proofs.Ytgijekhlbkfanaa
open Go.RowKit Go.Shelf
attribute [local go_sem] Later.cell Same.cell

theorem tcel_take (l : List TkR) (k : Nat) (hk : k ≤ l.length) : (tcel l).take (k * 4) = tcel (l.take k) := by
  have h : tcel l = tcel (l.take k) ++ tcel (l.drop k) := by rw [← tcel_app, List.take_append_drop]
  rw [h, List.take_left' (by rw [tcel_len, List.length_take, Nat.min_eq_left hk])]
theorem tcel_drop (l : List TkR) (k : Nat) (hk : k ≤ l.length) : (tcel l).drop (k * 4) = tcel (l.drop k) := by
  have h : tcel l = tcel (l.take k) ++ tcel (l.drop k) := by rw [← tcel_app, List.take_append_drop]
  rw [h, List.drop_left' (by rw [tcel_len, List.length_take, Nat.min_eq_left hk])]
/-- What stands in the row when the task i is taken out and the last place cleared. -/
theorem cutK_cells (l : List TkR) (i : Nat) (hi : i < l.length) (zs : List Value) : (setL (setL (tcel l) (i * 4) ((tcel l).drop ((i + 1) * 4))) ((l.length - 1) * 4) zs).take ((l.length - 1) * 4) = tcel (l.eraseIdx i) := by
  rw [List.eraseIdx_eq_take_drop_succ, tcel_app, ← tcel_take l i (by omega), ← tcel_drop l (i + 1) (by omega)]
  have hl := tcel_len l
  apply List.ext_getElem?
  intro j
  rw [List.getElem?_take, List.getElem?_append, List.length_take, hl, setL_get, setL_get, setL_len, hl, List.length_drop, hl, List.getElem?_take, List.getElem?_drop, List.getElem?_drop]
  by_cases h1 : j < (l.length - 1) * 4
  · rw [if_pos h1, if_neg (by omega)]
    by_cases h2 : j < i * 4
    · rw [if_neg (by omega), if_pos (by omega), if_pos h2]
    · rw [if_pos (by omega), if_neg (by omega)]
      congr 1; omega
  · rw [if_neg h1, if_neg (by omega)]
    symm
    rw [List.getElem?_eq_none]
    omega
theorem own_tasksK {w : World} {base : Nat} {e : TypeId} {v : Value} {n : Nat} {l : List TkR} (h : w.ownsRow base e 4 v n (tcel l)) :
    ∃ A cap, v = .slice A n cap ∧ n ≤ cap ∧ cap ≤ maxLen ∧ Rows 4 tk4 dTR w w.heap.size A n l ∧ (0 < n → ∃ g, A = some ⟨g, 0, none⟩ ∧ base ≤ g ∧ g < w.heap.size ∧ ∀ o, w.frozen? ⟨g, o, none⟩ = false) := by
  obtain ⟨h1, h2⟩ := h
  rw [tcel_len] at h1
  have hl : l.length = n := by omega
  rcases h2 with ⟨rfl, rfl⟩ | ⟨g, cap, cur, rfl, hb, hg, hnc, hm, hcs, ht⟩
  · exact ⟨none, 0, rfl, Nat.le_refl _, Nat.zero_le _, ⟨hl, fun h => absurd h (by omega)⟩, fun h => absurd h (by omega)⟩
  · have hlt : g < w.heap.size := (Array.getElem?_eq_some_iff.1 hg).1
    have hcell : ∀ j, j < n * 4 → w.cell? ⟨g, 0 + j, none⟩ = (tcel l)[j]? := by
      intro j hj
      rw [← ht, Nat.zero_add]
      simp [World.cell?, hg, List.getElem?_take, hj]
    refine ⟨some ⟨g, 0, none⟩, cap, rfl, hnc, hm, ⟨hl, fun h0 => ⟨g, 0, rfl, hlt, fun k hk j v hv => ?_⟩⟩, fun h0 => ⟨g, rfl, hb, hlt, fun o => by simp [World.frozen?, hg]⟩⟩
    have hj3 : j < 4 := by
      have := (List.getElem?_eq_some_iff.1 hv).1
      simpa [tk4] using this
    rw [Nat.add_assoc, hcell _ (by omega), tcel_get l k j (by omega) hj3]
    exact hv
theorem task_z4 : (Builtin.zeroCells (Value.agg #[.string ByteArray.empty, .int .i64 0, .int .i64 0, .slice none 0 0]).cells 1).toList = [.string ByteArray.empty, .int .i64 0, .int .i64 0, .slice none 0 0] := by kernel_rfl
set_option maxRecDepth 100000 in
set_option maxHeartbeats 4000000 in
theorem deleteK_any (g n cap base i : Nat) (l : List TkR) (w : World) (h : w.ownsRow base 43 4 (.slice (some ⟨g, 0, none⟩) n cap) n (tcel l)) (hm : n ≤ 100000) (hi : i < n) (hbw : base ≤ w.heap.size) :
    Calls Try.prog 84 #[.slice (some ⟨g, 0, none⟩) n cap, .int .i64 i, .int .i64 ((i : Int) + 1)] w fun e w' => e = .returned (.slice (some ⟨g, 0, none⟩) (n - 1) cap) ∧
      w'.ownsRow base 43 4 (.slice (some ⟨g, 0, none⟩) (n - 1) cap) (n - 1) (tcel (l.eraseIdx i)) ∧ w.grownBy w' (some g) := by
  obtain ⟨i0, hi0, hz0, hz1, hz2⟩ := info_parts info_task
  obtain ⟨A', cap', hv, h1, h2, hR, h4⟩ := own_tasksK h
  injection hv with e1 e2 e3
  subst e1 e3
  obtain ⟨g', hg', hg1, hg2, hg3⟩ := h4 (by omega)
  cases hg'
  have hln := hR.1
  unfold maxLen at h2
  have hC := Rows.cellsP hR
  obtain ⟨b, off, hb, hcell⟩ : ∃ b off, (some (⟨g, 0, none⟩ : Addr)) = some ⟨b, off, none⟩ ∧ ∀ j u, (tcel l)[j]? = some u → w.cell? ⟨b, off + j, none⟩ = some u := by
    rcases hC with h0 | h0
    · have := congrArg List.length h0
      rw [tcel_len] at this
      simp at this; omega
    · exact h0
  cases hb
  have hcj : ∀ j, j < n * 4 → ∃ u, w.cell? ⟨g, 0 + j, none⟩ = some u := fun j hj => by
    have hl : j < (tcel l).length := by rw [tcel_len]; omega
    exact ⟨_, hcell j _ (List.getElem?_eq_getElem hl)⟩
  obtain ⟨news, hnews⟩ : ∃ news, news = (tcel l).drop ((i + 1) * 4) := ⟨_, rfl⟩
  have hlen : news.length = (n - (i + 1)) * 4 := by rw [hnews, List.length_drop, tcel_len, hln]; omega
  obtain ⟨A, hA, hsrc⟩ : ∃ A : Addr, (if cap = i + 1 then (some ⟨g, 0, none⟩ : Option Addr) else some ⟨g, (i + 1) * 4, none⟩) = some A ∧ Hid (∀ t u, news[t]? = some u → w.drew.cell? (A.add t) = some u) := by
    by_cases hc : cap = i + 1
    · refine ⟨⟨g, 0, none⟩, by simp [hc], Lib.hid fun t u hu => ?_⟩
      have h0 : news.length = 0 := by rw [hlen]; omega
      rw [List.length_eq_zero_iff.1 h0] at hu
      simp at hu
    · refine ⟨⟨g, (i + 1) * 4, none⟩, by simp [hc], Lib.hid fun t u hu => ?_⟩
      rw [hnews, List.getElem?_drop] at hu
      rw [Addr.add_lit]
      have := hcell _ _ hu
      rw [Nat.zero_add] at this
      exact this
  have s1 := Lib.hid hlen
  have s2 : Hid (∀ u ∈ news, u.oneCell' = true) := Lib.hid fun u hu => tcel_one l u (by rw [hnews] at hu; exact List.mem_of_mem_drop hu)
  have s3 : Hid (∀ t, t < news.length → (w.drew.cell? ⟨g, 0 + i * 4 + t, none⟩).isSome = true ∧ w.drew.frozen? ⟨g, 0 + i * 4 + t, none⟩ = false) := Lib.hid fun t ht => by
    rw [hlen] at ht
    obtain ⟨u, hu⟩ := hcj (i * 4 + t) (by omega)
    refine ⟨?_, hg3 _⟩
    rw [Nat.add_assoc]
    show (w.cell? _).isSome = true
    rw [hu]; rfl
  have hrow0 : w.drew.ownsRow base 43 4 (.slice (some ⟨g, 0, none⟩) n cap) n (tcel l) := jown_later h (Below.refl _ w).drew
  obtain ⟨W1, hW1⟩ : ∃ W1, W1 = w.drew.setCells g (0 + i * 4) news := ⟨_, rfl⟩
  have hrow1 := own_setL news (tcel l) (0 + i * 4) _ hrow0
  rw [← hW1] at hrow1
  have hrow2 := own_setL [.string ByteArray.empty, .int .i64 0, .int .i64 0, .slice none 0 0] _ ((n - 1) * 4) _ hrow1.1
  have hcut := own_cut (m := n - 1) hrow2.1 (by omega)
  rw [hnews, Nat.zero_add, ← hln, cutK_cells l i (by omega)] at hcut
  rw [hln] at hcut
  have HCUT := Lib.hid hcut
  have hgb : ∀ {W W' : World}, W.grownBy W' (some g) → base ≤ W.heap.size → Below base W W' := fun hgr hh => grown_below hgr hh (fun k hk => by cases hk; exact hg1)
  have HBL : Hid (w.grownBy (W1.setCells g ((n - 1) * 4) [.string ByteArray.empty, .int .i64 0, .int .i64 0, .slice none 0 0]) (some g)) := Lib.hid (((⟨rfl, rfl, rfl, Nat.le_refl _, fun _ _ _ => rfl⟩ : w.grownBy w.drew (some g)).trans hrow1.2).trans hrow2.2)
  have hcl : ∀ ty c', (Builtin.clear_ #[31] ty #[.slice (some ⟨g, (n - 1) * 4, none⟩) 1 c']).run Try.prog W1 = .ok (.tuple #[]) (W1.setCells g ((n - 1) * 4) [.string ByteArray.empty, .int .i64 0, .int .i64 0, .slice none 0 0]) := by
    intro ty c'
    refine run_clear3 W1 31 43 ty (.agg #[.string ByteArray.empty, .int .i64 0, .int .i64 0, .slice none 0 0]) Try.underlying31 ?_ _ task_z4 (by intro v hv; simp only [List.mem_cons, List.not_mem_nil, or_false] at hv; rcases hv with rfl | rfl | rfl | rfl <;> rfl) g ((n - 1) * 4) c' ?_ ?_
    · intro w; rfl
    · intro j hj
      have hsz : (setL (tcel l) (0 + i * 4) news).length = n * 4 := by rw [setL_len, tcel_len, hln]
      obtain ⟨A2, cap2, hv2, -, -⟩ := own_tasksK (l := l) hrow0
      rcases hrow1.1.2 with ⟨h', _⟩ | ⟨g', cap', cur, h', hb', hg', hnc', hcm', hcs', ht'⟩
      · simp at h'
      · simp only [Value.slice.injEq, Option.some.injEq, Addr.mk.injEq, and_true, true_and] at h'
        obtain ⟨rfl, rfl⟩ := h'
        have hj4 : j < 4 := by simpa using hj
        have : (n - 1) * 4 + j < cur.size := by rw [hcs']; omega
        simp [World.cell?, hg', this]
    · intro j hj
      exact hrow1.1.frozenAt _
  have hE1 : i + (n - (i + 1)) = n - 1 := by omega
  have hE2 : n - (n - 1) = 1 := by omega
  have hcl2 : ∀ ty c', (Builtin.clear_ #[31] ty #[.slice (some ⟨g, (i + (n - (i + 1))) * 4, none⟩) (n - (i + (n - (i + 1)))) c']).run Try.prog W1 = .ok (.tuple #[]) (W1.setCells g ((n - 1) * 4) [.string ByteArray.empty, .int .i64 0, .int .i64 0, .slice none 0 0]) := by
    rw [hE1, hE2]; exact hcl
  have HE1 := Lib.hid hE1
  clear hcl hE1 hE2
  have HW : Hid (W1 = w.drew.setCells g (0 + i * 4) news) := Lib.hid hW1
  have hic : i ≤ cap := by omega
  have hjc : i + 1 ≤ cap := by omega
  have hne : ((i : Int) == (i : Int) + 1) = false := by simp; omega
  have mixed : Try.prog.follows .mixedOrders = true := by kernel_rfl
  have hj0 : 0 ≤ (i : Int) + 1 := by omega
  have hj1 : (i : Int) + 1 ≤ n := by omega
  clear hW1 hrow0 hrow1 hrow2 hcut hnews hlen hcj hC hR h h4 hcell hgb
  go_enter Try.func84, Try.ntmps84
  go_wp2_with fail
  go_region_law_o (refine step_append_room rfl (.tmp 22) (.tmp 25) 31 rfl 43 i0 4 Try.underlying31 hi0 hz1 g 0 i cap (by simp [Act.eval, Act.put]) A (n - (i + 1)) (cap - (i + 1)) news (by simp [Act.eval, Act.put]) s1.out hsrc.out s2.out (by omega) s3.out ?_; rw [← HW.out])
  go_wp2
  go_ret
  rw [HE1.out]
  exact ⟨rfl, HCUT.out, HBL.out⟩
end Go.Proofs.Ytgijekhlbkfanaa

namespace Go.Proofs.Ytgijekhlbkfanaa
open Go.RowKit Go.Shelf
attribute [local go_sem] Later.cell Same.cell

set_option maxHeartbeats 1000000 in
theorem done1_any (s t : ByteArray) (B : Nat) (w : World) (hc : w.cell? ⟨B, 0, none⟩ = some (.string s)) :
    Calls Try.prog 86 #[.string t, .pointer (some ⟨B, 0, none⟩)] w fun e w' => e = .returned (.bool (decide (t = s))) ∧ w = w' := by
  have hb : (t.toList == s.toList) = decide (t = s) := beqS t s
  go_enter Try.func86, Try.ntmps86
  go_wp2
  go_ret
  exact ⟨rfl, rfl⟩
theorem run_clearN {P : Program} (w : World) (t e ty : TypeId) (z : Value) (m : Nat) (ht : P.underlying t = some (.slice e)) (hv : ∀ w, (zeroValue e).run P w = .ok z w) (zs : List Value) (hz : (Builtin.zeroCells z.cells (m + 1)).toList = zs) (h1 : ∀ v ∈ zs, v.oneCell' = true) (b o c : Nat)
    (hc : ∀ j, j < zs.length → (w.cell? ⟨b, o + j, none⟩).isSome = true) (hf : ∀ j, j < zs.length → w.frozen? ⟨b, o + j, none⟩ = false) :
    (Builtin.clear_ #[t] ty #[.slice (some ⟨b, o, none⟩) (m + 1) c]).run P w = .ok (.tuple #[]) (w.setCells b o zs) := by
  have hst := run_storeCells_cells (P := P) b o zs 0 w (by simpa using hc) (by simpa using hf) h1
  simp only [Nat.add_zero] at hst
  simp [Builtin.clear_, run_underlying ht, hv, hz, hst]
set_option maxRecDepth 20000 in
set_option maxHeartbeats 2000000 in
theorem IdxDone_any (B : Nat) (p : ByteArray → Bool) (A : Option Addr) (len cap : Nat) (ss : List ByteArray) (w : World) (hm : len ≤ 9223372036854775807) (hx : Strs w w.heap.size A len ss)
    (hc : ∀ s ∈ ss, ∀ W, Below w.heap.size w W → Calls Try.prog 86 #[.string s, .pointer (some ⟨B, 0, none⟩)] W fun e w' => e = .returned (.bool (p s)) ∧ W = w') :
    Calls Try.prog 107 #[.slice A len cap, .func (.func 86) #[] #[.pointer (some ⟨B, 0, none⟩)]] w fun e w' => e = .returned (.int .i64 (fiS p ss)) ∧ w = w' := by
  obtain rfl : ss.length = len := hx.1
  obtain ⟨R, hR⟩ : ∃ R, R = fiS p ss := ⟨_, rfl⟩
  rw [← hR]
  have HR := Lib.hid hR
  have C1 := Lib.hid hc
  have HX := Lib.hid hx
  clear hc hx hR
  go_enter Try.func107, Try.ntmps107
  go_wp2
  go_loopw [8] (fun i wr => ∃ k : Nat, k ≤ ss.length ∧ i = .int .i64 k ∧ Hid (∀ j, j < k → p (ssA ss j) = false) ∧ w = wr) (fun i _ => ss.length - (intOf i).toNat)
  case atStart => exact ⟨0, Nat.zero_le _, rfl, Lib.hid (fun j hj => absurd hj (by omega)), rfl⟩
  case round =>
    obtain ⟨k, hk, rfl, hT, rfl⟩ := hrel
    by_cases hlt : k < ss.length
    · obtain ⟨b, off, rfl, hb0, hc1⟩ := HX.out.atS k hlt
      change w.cell? _ = some (.string (ssA ss k)) at hc1
      have HN := Lib.hid (fun h => fiS_at hlt hT.out h)
      have HY := Lib.hid (fun h j (hj : j < k + 1) => if e : j = k then (by rw [e]; exact h : p (ssA ss j) = false) else hT.out j (by omega))
      have c2 := C1.out (ssA ss k) (ssA_mem hlt) w (Below.refl _ _)
      have hk1 : (k : Int) < ss.length := by omega
      have hk2 : ¬ ss.length ≤ k := by omega
      generalize ssA ss k = X at *
      cases hv : p X
      · have h4 := Lib.hid (HY.out hv)
        rw [hv] at c2
        have C2 := Lib.hid c2
        clear c2 hv HN HY
        go_wp2_with fail
        refine C2.out.mono ?_
        rintro e w1 ⟨rfl, rfl⟩
        go_wp2
        go_roundw
        case rel => exact ⟨k + 1, by omega, by go_num, h4, by first | rfl | trivial⟩
        case measure => simp [intOf]; omega
      · have h4 : Hid ((k : Int) = R) := Lib.hid (by rw [HR.out]; exact HN.out hv)
        rw [hv] at c2
        have C2 := Lib.hid c2
        clear c2 hv HN HY
        go_wp2_with fail
        refine C2.out.mono ?_
        rintro e w1 ⟨rfl, rfl⟩
        go_wp2
        go_ret
        exact ⟨ret_int h4.out, rfl⟩
    · have hfin : Hid ((-1 : Int) = R) := Lib.hid (by rw [HR.out]; exact fiS_no fun j hj => hT.out j (by omega))
      have hk1 : ¬ (k : Int) < ss.length := by omega
      clear hT
      go_wp2
      go_ret
      exact ⟨ret_int hfin.out, rfl⟩
/-- The row while DeleteFunc walks it: the kept ones ahead, the rest as it was. -/
structure DfR (s : ByteArray) (ss ys : List ByteArray) (i j : Nat) : Prop where
  len : ys.length = ss.length
  le : i ≤ j
  jl : j ≤ ss.length
  kept : ys.take i = (ss.take j).filter fun x => !decide (x = s)
  rest : ys.drop j = ss.drop j
theorem DfR.at_ {s : ByteArray} {ss ys : List ByteArray} {i j : Nat} (h : DfR s ss ys i j) (hj : j < ss.length) : ys[j]? = ss[j]? := by
  have := congrArg (fun z : List ByteArray => z[0]?) h.rest
  simpa [List.getElem?_drop] using this
theorem DfR.skip {s : ByteArray} {ss ys : List ByteArray} {i j : Nat} (h : DfR s ss ys i j) (hj : j < ss.length) (he : ss[j] = s) : DfR s ss ys i (j + 1) := by
  refine ⟨h.len, by have := h.le; omega, hj, ?_, ?_⟩
  · rw [h.kept, List.take_succ_eq_append_getElem hj, List.filter_append]
    simp [he]
  · have h1 : (ys.drop j).drop 1 = (ss.drop j).drop 1 := by rw [h.rest]
    rwa [List.drop_drop, List.drop_drop] at h1
theorem DfR.keep {s : ByteArray} {ss ys : List ByteArray} {i j : Nat} (h : DfR s ss ys i j) (hij : i < j) (hj : j < ss.length) (he : ss[j] ≠ s) : DfR s ss (ys.set i ss[j]) (i + 1) (j + 1) := by
  have hil : i < ys.length := by rw [h.len]; omega
  refine ⟨by rw [List.length_set]; exact h.len, by omega, hj, ?_, ?_⟩
  · rw [List.take_succ_eq_append_getElem (by rw [List.length_set]; exact hil), List.take_set_of_le (Nat.le_refl _), h.kept, List.take_succ_eq_append_getElem hj, List.filter_append]
    simp [he]
  · rw [List.drop_set_of_lt (by omega)]
    have h1 : (ys.drop j).drop 1 = (ss.drop j).drop 1 := by rw [h.rest]
    rwa [List.drop_drop, List.drop_drop] at h1
end Go.Proofs.Ytgijekhlbkfanaa

namespace Go.Proofs.Ytgijekhlbkfanaa
open Go.RowKit Go.Shelf
attribute [local go_sem] Later.cell Same.cell

def flt (s : ByteArray) (ss : List ByteArray) : List ByteArray := ss.filter fun x => !decide (x = s)
theorem scel_set (ys : List ByteArray) (i : Nat) (v : ByteArray) : (scel ys).set i (.string v) = scel (ys.set i v) := by simp [scel, List.map_set]
theorem setL_cut (ys : List ByteArray) (i : Nat) (zs : List Value) : (setL (scel ys) i zs).take i = scel (ys.take i) := by
  apply List.ext_getElem?
  intro j
  rw [List.getElem?_take]
  unfold scel
  rw [List.getElem?_map, List.getElem?_take]
  by_cases h : j < i
  · rw [if_pos h, if_pos h, setL_get, if_neg (by omega), List.getElem?_map]
  · rw [if_neg h, if_neg h]; rfl
theorem str_zeros (m : Nat) : (Builtin.zeroCells (Value.string ByteArray.empty).cells m).toList = List.replicate m (.string ByteArray.empty) := by
  have e : (Value.string ByteArray.empty).cells = #[.string ByteArray.empty] := rfl
  rw [e]
  apply List.ext_getElem?
  intro i
  by_cases hi : i < m
  · simp [Builtin.zeroCells, hi, Nat.mod_one]
  · simp [Builtin.zeroCells, hi]
set_option maxRecDepth 20000 in
set_option maxHeartbeats 8000000 in
theorem deleteFunc_any (s : ByteArray) (B base g n cap : Nat) (ss : List ByteArray) (w : World) (ho : w.ownsRow base 9 1 (.slice (some ⟨g, 0, none⟩) n cap) n (scel ss)) (hn : n ≤ 1000) (hc : w.cell? ⟨B, 0, none⟩ = some (.string s)) (hB : B ≠ g) :
    Calls Try.prog 85 #[.slice (some ⟨g, 0, none⟩) n cap, .func (.func 86) #[] #[.pointer (some ⟨B, 0, none⟩)]] w fun e w' => e = .returned (.slice (some ⟨g, 0, none⟩) (flt s ss).length cap) ∧
      w'.ownsRow base 9 1 (.slice (some ⟨g, 0, none⟩) (flt s ss).length cap) (flt s ss).length (scel (flt s ss)) ∧ w.grownBy w' (some g) := by
  obtain ⟨A', cap', hv, hq1, hq2, hS, -⟩ := own_strs ho
  injection hv with e1 e2 e3
  subst e1 e3
  obtain rfl : ss.length = n := hS.1
  have hBl := World.block_lt_of_cell? w _ hc
  change B < _ at hBl
  have c1 := IdxDone_any B (fun t => decide (t = s)) (some ⟨g, 0, none⟩) ss.length cap ss w (by omega) hS (fun t ht W hb => done1_any s t B W ((hb.cell (p := ⟨B, 0, none⟩) hBl).trans hc))
  cases hf : ss.findIdx? (fun t => decide (t = s)) with
  | none =>
    have hI : fiS (fun t => decide (t = s)) ss = -1 := by unfold fiS; rw [hf]
    rw [hI] at c1
    have hfl : flt s ss = ss := by
      unfold flt
      rw [List.filter_eq_self]
      intro x hx
      have := List.findIdx?_eq_none_iff.1 hf x hx
      simpa using this
    rw [hfl]
    have C1 := Lib.hid c1
    have HO := Lib.hid ho
    clear c1 hI hfl hf ho hS hc
    go_enter Try.func85, Try.ntmps85
    go_wp2_with fail
    refine C1.out.mono ?_
    rintro e w1 ⟨rfl, rfl⟩
    go_wp2
    go_ret
    exact ⟨rfl, HO.out, World.grownBy.refl _ _⟩
  | some k =>
    obtain ⟨hk, hk1, hk2⟩ := List.findIdx?_eq_some_iff_getElem.1 hf
    have hI : fiS (fun t => decide (t = s)) ss = (k : Int) := by unfold fiS; rw [hf]
    rw [hI] at c1
    have hks : ss[k] = s := by simpa using hk1
    have hD0 : DfR s ss ss k (k + 1) := by
      refine ⟨rfl, Nat.le_succ _, hk, ?_, rfl⟩
      rw [List.take_succ_eq_append_getElem hk, List.filter_append]
      have : (ss.take k).filter (fun x => !decide (x = s)) = ss.take k := by
        rw [List.filter_eq_self]
        intro x hx
        obtain ⟨j, hj, rfl⟩ := List.getElem_of_mem hx
        have hjk : j < k := by rw [List.length_take] at hj; omega
        have := hk2 j hjk
        rw [List.getElem_take]
        simpa using this
      rw [this]
      simp [hks]
    have HD0 := Lib.hid hD0
    have C1 := Lib.hid c1
    have HO := Lib.hid ho
    have HC := Lib.hid hc
    have hkm : ((k : Int) == -1) = false := by rw [beq_eq_false_iff_ne]; omega
    have C2 := Lib.hid (fun t W hc => done1_any s t B W hc)
    clear c1 hI hf ho hS hc hks hD0 hk1 hk2
    go_enter Try.func85, Try.ntmps85
    go_wp2_with fail
    refine C1.out.mono ?_
    rintro e w1 ⟨rfl, rfl⟩
    go_wp2
    go_loopw [5, 6] (fun i' j' W => ∃ (i j : Nat) (ys : List ByteArray), i' = .int .i64 (i : Int) ∧ j' = .int .i64 (j : Int) ∧ i < j ∧ j ≤ ss.length ∧ Hid (DfR s ss ys i j) ∧ Hid (W.ownsRow base 9 1 (.slice (some ⟨g, 0, none⟩) ss.length cap) ss.length (scel ys)) ∧ Hid (w.grownBy W (some g))) (fun _ j' _ => ss.length - (intOf j').toNat)
    case atStart => exact ⟨k, k + 1, ss, rfl, by go_num, Nat.lt_succ_self _, hk, HD0, HO, Lib.hid (World.grownBy.refl _ _)⟩
    case round =>
      obtain ⟨i, j, ys, rfl, rfl, hij, hjl, HD, HW, HG⟩ := hrel
      have hcB := HG.out.cell HC.out (by intro e; injection e with e; exact hB e)
      by_cases hlt : j < ss.length
      · obtain ⟨hgl, -, hgc, hgf⟩ := (⟨trivial, trivial, fun q hq => HW.out.cellAt q (by omega), fun q => HW.out.frozenAt q⟩ : True ∧ True ∧ (∀ q, q < ss.length → wr.cell? ⟨g, q, none⟩ = (scel ys)[q]?) ∧ ∀ q, wr.frozen? ⟨g, q, none⟩ = false)
        have hyj : (scel ys)[j]? = some (.string ss[j]) := by unfold scel; rw [List.getElem?_map, HD.out.at_ hlt, List.getElem?_eq_getElem hlt]; rfl
        have hcj := (hgc j hlt).trans hyj
        have hil : i < ss.length := by omega
        have hyl : i < ys.length := by rw [HD.out.len]; exact hil
        have hci : wr.cell? ⟨g, i, none⟩ = some (.string ys[i]) := by rw [hgc i hil]; unfold scel; rw [List.getElem?_map, List.getElem?_eq_getElem hyl]; rfl
        have hfi := hgf i
        have hst := (HW.out.stored i (.string ss[j]))
        rw [scel_set] at hst
        have hsk := fun he => HD.out.skip hlt he
        have hkp := fun he => HD.out.keep hij hlt he
        have c2 := C2.out ss[j] wr hcB
        generalize ss[j] = V at *
        have HST := Lib.hid hst
        have HSK := Lib.hid hsk
        have HKP := Lib.hid hkp
        have hj1 : (j : Int) < ss.length := by omega
        have hj2 : ¬ ss.length ≤ j := by omega
        have hi1 : (i : Int) < ss.length := by omega
        have hi2 : ¬ ss.length ≤ i := by omega
        clear hgc hgf hyj hst hsk hkp
        by_cases hVs : V = s
        · rw [decide_eq_true hVs] at c2
          have C3 := Lib.hid c2
          have HN := Lib.hid (HSK.out hVs)
          clear c2 hVs HSK HKP HST
          go_wp2_with fail
          refine C3.out.mono ?_
          rintro e w2 ⟨rfl, rfl⟩
          go_wp2
          go_roundw
          case rel => exact ⟨i, j + 1, ys, rfl, by go_num, by omega, hlt, HN, HW, HG⟩
          case measure => simp [intOf]; omega
        · rw [decide_eq_false hVs] at c2
          have C3 := Lib.hid c2
          have HN := Lib.hid (HKP.out hVs)
          clear c2 hVs HSK HKP
          go_wp2_with fail
          refine C3.out.mono ?_
          rintro e w2 ⟨rfl, rfl⟩
          go_wp2
          go_roundw
          case rel => exact ⟨i + 1, j + 1, _, by go_num, by go_num, by omega, hlt, HN, Lib.hid HST.out.1, Lib.hid (HG.out.trans HST.out.2)⟩
          case measure => simp [intOf]; omega
      · have hjn : j = ss.length := by omega
        subst hjn
        have hj1 : ¬ (ss.length : Int) < ss.length := by omega
        have hyl : ys.length = ss.length := HD.out.len
        have hfl : ys.take i = flt s ss := by rw [HD.out.kept, List.take_length]; rfl
        obtain ⟨m, hm⟩ : ∃ m, ss.length - i = m + 1 := ⟨ss.length - i - 1, by omega⟩
        have hcl : ∀ ty c', (Builtin.clear_ #[41] ty #[.slice (some ⟨g, i, none⟩) (ss.length - i) c']).run Try.prog wr = .ok (.tuple #[]) (wr.setCells g i (List.replicate (m + 1) (.string ByteArray.empty))) := by
          intro ty c'
          rw [hm]
          refine run_clearN wr 41 9 ty (.string ByteArray.empty) m Try.underlying41 ?_ _ (str_zeros (m + 1)) ?_ g i c' ?_ ?_
          · intro w; rfl
          · intro v hv; rw [List.eq_of_mem_replicate hv]; rfl
          · intro q hq
            rw [List.length_replicate] at hq
            have hql : i + q < ys.length := by omega
            have := HW.out.cellAt (i + q) (by omega)
            rw [this]
            unfold scel
            rw [List.getElem?_map, List.getElem?_eq_getElem hql]; rfl
          · intro q hq
            exact HW.out.frozenAt _
        have hst := own_setL (List.replicate (m + 1) (.string ByteArray.empty)) (scel ys) i wr HW.out
        have hcut := own_cut (m := i) hst.1 (by omega)
        rw [Nat.mul_one, setL_cut, hfl] at hcut
        have hfi : (flt s ss).length = i := by rw [← hfl, List.length_take]; omega
        have HFI := Lib.hid hfi
        have HCUT := Lib.hid hcut
        have HGR := Lib.hid (HG.out.trans hst.2)
        have hic : ¬ cap = i := by omega
        have hi0 : (0 : Int) ≤ i := by omega
        have hi1 : i ≤ cap := by omega
        have hi2 : i ≤ ss.length := by omega
        clear hfi hst hcut hfl hm HD HW HG hcB hyl
        go_wp2
        go_ret
        rw [HFI.out]
        exact ⟨rfl, HCUT.out, HGR.out⟩
set_option maxHeartbeats 1000000 in
theorem deleteFunc_nil (s : ByteArray) (B c : Nat) (w : World) (hc : w.cell? ⟨B, 0, none⟩ = some (.string s)) :
    Calls Try.prog 85 #[.slice none 0 c, .func (.func 86) #[] #[.pointer (some ⟨B, 0, none⟩)]] w fun e w' => e = .returned (.slice none 0 c) ∧ w = w' := by
  have c1 := IdxDone_any B (fun t => decide (t = s)) none 0 c [] w (by omega) ⟨rfl, fun h => absurd h (Nat.lt_irrefl 0)⟩ (fun t ht => by cases ht)
  have hI : fiS (fun t => decide (t = s)) [] = -1 := rfl
  rw [hI] at c1
  have C1 := Lib.hid c1
  clear c1 hI
  go_enter Try.func85, Try.ntmps85
  go_wp2_with fail
  refine C1.out.mono ?_
  rintro e w1 ⟨rfl, rfl⟩
  go_wp2
  go_ret
  exact ⟨rfl, rfl⟩
end Go.Proofs.Ytgijekhlbkfanaa

namespace Go.Proofs.Ytgijekhlbkfanaa
open Go.RowKit
attribute [local go_sem] Later.cell Same.cell

def ownA (W : World) (base : Nat) (x : TkR) : Prop := W.ownsRow base 9 1 (.slice x.1.1 x.1.2.1 x.1.2.2) x.1.2.1 (scel x.2.af)
def obA (x : TkR) : Option Nat := (Value.slice x.1.1 x.1.2.1 x.1.2.2).ownBlock
def xA (xs : List TkR) (q : Nat) : TkR := xs[q]?.getD dTR
/-- The first k Afters are of the call's own, each in a block of its own. -/
structure OPk (W : World) (base g k : Nat) (xs : List TkR) : Prop where
  own : ∀ q, q < k → q < xs.length → ownA W base (xA xs q)
  ne : ∀ q, q < k → q < xs.length → obA (xA xs q) ≠ some g
  dis : ∀ q r, q < k → r < k → q < xs.length → r < xs.length → q ≠ r → obA (xA xs q) ≠ none → obA (xA xs q) ≠ obA (xA xs r)
theorem OPk.zero (W : World) (base g : Nat) (xs : List TkR) : OPk W base g 0 xs := ⟨fun q h => absurd h (Nat.not_lt_zero q), fun q h => absurd h (Nat.not_lt_zero q), fun q r h => absurd h (Nat.not_lt_zero q)⟩
theorem OPk.later {W W' : World} {base g k : Nat} {xs : List TkR} (h : OPk W base g k xs) (hb : Below W.heap.size W W') : OPk W' base g k xs := ⟨fun q h1 h2 => jown_later (h.own q h1 h2) hb, h.ne, h.dis⟩
theorem xA_set {xs : List TkR} {k q : Nat} {y : TkR} (hk : k < xs.length) : xA (xs.set k y) q = if q = k then y else xA xs q := by
  unfold xA
  by_cases h : q = k
  · subst h; rw [if_pos rfl, List.getElem?_set_self hk]; rfl
  · rw [if_neg h, List.getElem?_set_ne (Ne.symm h)]
theorem OPk.step {W : World} {base g k i : Nat} {xs : List TkR} {y : TkR} {v : Value} (h : OPk W base g k xs) (hk : k < xs.length) (hy : ownA W base y) (hyn : obA y ≠ some g) (hyd : ∀ q, q < k → obA y ≠ none → obA y ≠ obA (xA xs q)) : OPk (W.setCell ⟨g, i, none⟩ v) base g (k + 1) (xs.set k y) := by
  have hst : ∀ x, ownA W base x → obA x ≠ some g → ownA (W.setCell ⟨g, i, none⟩ v) base x := fun x h1 h2 => jown_block h1 fun z hz => Below.heap_setCell _ ⟨g, i, none⟩ v z (by show z ≠ g; intro e; exact h2 (by rw [← e]; exact hz))
  refine ⟨fun q h1 h2 => ?_, fun q h1 h2 => ?_, fun q r h1 h2 h3 h4 hne hn => ?_⟩
  · rw [List.length_set] at h2
    rw [xA_set hk]
    by_cases e : q = k
    · rw [if_pos e]; exact hst _ hy hyn
    · rw [if_neg e]; exact hst _ (h.own q (by omega) h2) (h.ne q (by omega) h2)
  · rw [List.length_set] at h2
    rw [xA_set hk]
    by_cases e : q = k
    · rw [if_pos e]; exact hyn
    · rw [if_neg e]; exact h.ne q (by omega) h2
  · rw [List.length_set] at h3 h4
    rw [xA_set hk] at hn ⊢
    rw [xA_set hk]
    by_cases e : q = k
    · rw [if_pos e] at hn ⊢
      rw [if_neg (by omega)]
      exact hyd r (by omega) hn
    · rw [if_neg e] at hn ⊢
      by_cases e2 : r = k
      · rw [if_pos e2]
        intro hh
        exact hyd q (by omega) (by rw [← hh]; exact hn) hh.symm
      · rw [if_neg e2]
        exact h.dis q r (by omega) (by omega) h3 h4 hne hn
/-- What the loop of copied keeps. -/
def CoR2 (l : List Tk) (w : World) (g cap : Nat) (k' : Value) (W : World) : Prop := ∃ (k : Nat) (xs : List TkR), k ≤ l.length ∧ k' = .int .i64 (k : Int) ∧ xs.map (·.2) = l ∧ Hid (OPl W w.heap.size g cap l.length xs) ∧ Hid (OPk W w.heap.size g k xs) ∧ Below w.heap.size w W
set_option maxRecDepth 20000 in
set_option maxHeartbeats 16000000 in
theorem copied2_any (A : Option Addr) (len cap : Nat) (l : List Tk) (w : World) (hP : okP l) (hx : Plan w w.heap.size A len l) :
    Calls Try.prog 82 #[.slice A len cap] w fun e w' => (∃ g cap' xs, e = .returned (.slice (some ⟨g, 0, none⟩) len cap') ∧ (len ≤ cap' ∧ cap' ≤ maxLen) ∧ xs.map (·.2) = l ∧ OPl w' w.heap.size g cap' len xs ∧ OPk w' w.heap.size g len xs) ∧ Below w.heap.size w w' := by
  obtain rfl : l.length = len := hx.1
  obtain ⟨xs0, hm0, hr0, hg0⟩ := plan_rows hx
  have hL := hP.len
  have c1 := cloneK_any A l.length cap xs0 w (by omega) hr0
  have c2 := fun A n c ss W (hn : n ≤ 100000) (h : Strs W W.heap.size A n ss) => cloneS_any A n c ss W hn h
  have HP := Lib.hid hP
  have HG0 := Lib.hid hg0
  have HM0 := Lib.hid hm0
  have HR0 := Lib.hid hr0
  have C1 := Lib.hid c1
  have C2 := Lib.hid c2
  clear c1 c2 hP hg0 hm0 hr0 hx
  go_enter Try.func82, Try.ntmps82
  go_wp2_with fail
  refine C1.out.mono ?_
  rintro e w1 ⟨⟨v1, rfl, ho1⟩, hb1⟩
  obtain ⟨g, cap1, rfl, hq1, hq2⟩ := own_tasks ho1 HP.out.pos
  have hs1 := hb1.size
  have hgb : w.heap.size ≤ g := by
    rcases ho1.2 with ⟨h', _⟩ | ⟨g', cap', cur, h', hb, hg, _⟩
    · simp at h'
    · simp only [Value.slice.injEq, Option.some.injEq, Addr.mk.injEq, and_true, true_and] at h'
      omega
  have HO1 : Hid (OPl w1 w.heap.size g cap1 l.length xs0) := Lib.hid ⟨ho1, fun x hx => (HG0.out x hx).go hb1, fun x hx h0 b off he => by
    obtain ⟨h1, h2⟩ := HG0.out x hx
    obtain ⟨b', off', e1, e2, -⟩ := h2.2 h0
    rw [he] at e1
    injection e1 with e1
    injection e1 with e1 e3
    omega⟩
  have HB1 := Lib.hid hb1
  have HQ1 := Lib.hid hq1
  clear ho1 hb1 hq1 C1 HG0 HR0
  go_wp2
  go_loopw [9] (fun i W => CoR2 l w g cap1 i W) (fun i _ => l.length - (intOf i).toNat)
  case atStart => exact ⟨0, xs0, Nat.zero_le _, rfl, HM0.out, HO1, Lib.hid (OPk.zero _ _ _ _), HB1.out⟩
  case round =>
    obtain ⟨k, xs, hk, rfl, hmx, HO, HK, hB⟩ := hrel
    have hbs := hB.size
    by_cases hlt : k < l.length
    · obtain ⟨hgl, hgb2, hgc, hgf⟩ := HO.out.at_
      have hxl := HO.out.len
      have hkx : k < xs.length := by omega
      have hmem : xs[k] ∈ xs := List.getElem_mem hkx
      have hxk : xs[k]?.getD dTR = xs[k] := by rw [List.getElem?_eq_getElem hkx]; rfl
      have hc3 := hgc k 3 hlt (by omega)
      rw [hxk] at hc3
      have hok := HO.out.ok _ hmem
      have haf : xs[k].2.af.length ≤ 10 := by
        have h1 := HP.out.few k hlt
        have h2 : tkA l k = xs[k].2 := by unfold tkA; rw [← hmx, List.getElem?_map, List.getElem?_eq_getElem hkx]; rfl
        rwa [h2] at h1
      have hst := fun (v : Value) (y : TkR) W (hb : Below wr.heap.size wr W) => (HO.out.later hb).store (k := k) (j := 3) (v := v) (y := y) hlt (by omega)
      rw [hxk] at hst
      have hms : ∀ a, (xs.set k (a, xs[k].2)).map (·.2) = l := fun a => by
        rw [List.map_set, hmx]
        apply List.ext_getElem?
        intro q
        rw [List.getElem?_set]
        by_cases hq : k = q
        · subst hq
          rw [if_pos rfl, if_pos hlt, ← hmx, List.getElem?_map, List.getElem?_eq_getElem hkx]; rfl
        · rw [if_neg hq]
      generalize xs[k] = x at *
      obtain ⟨⟨A', n, c⟩, t⟩ := x
      obtain ⟨hnc, hS⟩ := hok
      change n ≤ c ∧ c ≤ _ at hnc
      change Strs wr wr.heap.size A' n t.af at hS
      change wr.cell? _ = some (.slice A' n c) at hc3
      change t.af.length ≤ 10 at haf
      have hn10 : n ≤ 10 := by have := hS.1; omega
      have c3 := C2.out A' n c t.af wr (by omega) hS
      have C3 := Lib.hid c3
      have HST := Lib.hid hst
      have HMS := Lib.hid hms
      have HB := Lib.hid hB
      have hf3 := hgf (k * 4 + 3)
      have hk1 : (k : Int) < l.length := by omega
      have hk2 : ¬ l.length ≤ k := by omega
      clear c3 hst hms hmem hxk hgc hgf hS hnc hB HO
      go_wp2_with fail
      refine C3.out.mono ?_
      rintro e w5 ⟨⟨v5, rfl, ho5⟩, hb5⟩
      obtain ⟨A5, cap5, rfl, hm1, hm2, hS5, hn5⟩ := own_strs ho5
      have HK9 := Lib.hid ((HK.out.later hb5).step (v := .slice A5 n cap5) (i := k * 4 + 3) (y := ((A5, n, cap5), t)) hkx (jown_mono ho5 hbs) (fun e => by have := (ho5.lt g e).1; omega) (fun q hq hne hh => by
        obtain ⟨z, hz⟩ := Option.ne_none_iff_exists'.1 hne
        have h1 := (ho5.lt z hz).1
        have h2 := ((HK.out.own q hq (by omega)).lt z (hh.symm.trans hz)).2
        omega))
      have hc8 : w5.cell? ⟨g, k * 4 + 3, none⟩ = some (.slice A' n c) := (hb5.cell (p := ⟨g, _, none⟩) hgl).trans hc3
      have hf8 : w5.frozen? ⟨g, k * 4 + 3, none⟩ = false := (hb5.frozen (p := ⟨g, _, none⟩) hgl).trans hf3
      have HO9 := Lib.hid (HST.out (.slice A5 n cap5) ((A5, n, cap5), t) w5 hb5 rfl ⟨⟨hm1, hm2⟩, hS5⟩ (fun _ b off he => by have := hn5 b off he; omega))
      have HB5 := Lib.hid (HB.out.trans (hb5.mono hbs))
      have hgs5 : w.heap.size ≤ g := hgb
      clear ho5 hb5 hS5 hn5 hc3 hf3
      go_wp2
      go_roundw
      case rel => exact ⟨k + 1, _, by omega, by go_num, HMS.out (A5, n, cap5), HO9, HK9, HB5.out.setCell (p := ⟨g, k * 4 + 3, none⟩) hgb _⟩
      case measure => simp [intOf]; omega
    · have hkl : k = l.length := by omega
      have hk1 : ¬ (k : Int) < l.length := by omega
      have HB := Lib.hid hB
      have HMX := Lib.hid hmx
      clear hB hmx
      go_wp2
      go_ret
      exact ⟨⟨g, cap1, rfl, ⟨HQ1.out, hq2⟩, xs, HMX.out, HO.out, by rw [← hkl]; exact HK.out⟩, HB.out⟩
end Go.Proofs.Ytgijekhlbkfanaa

namespace Go.Proofs.Ytgijekhlbkfanaa

theorem sub_len {xs : List Nat} : ∀ {ys : List Nat}, xs.Nodup → (∀ x ∈ xs, x ∈ ys) → xs.length ≤ ys.length := by
  induction xs with
  | nil => intro ys _ _; simp
  | cons x xs ih =>
    intro ys h hs
    have hx := hs x (List.mem_cons_self ..)
    have h1 := List.nodup_cons.1 h
    have h2 := ih (ys := ys.erase x) h1.2 fun y hy => (List.mem_erase_of_ne fun e => h1.1 (by rw [← e]; exact hy)).2 (hs y (List.mem_cons_of_mem _ hy))
    rw [List.length_erase_of_mem hx] at h2
    have := List.length_pos_of_mem hx
    rw [List.length_cons]; omega
/-- Where tasks stand in ranks all of them have their turn. -/
theorem ord_of_rank {l : List Tk} (r : Nat → Nat) (h : ∀ i, i < l.length → ∀ a ∈ afs l i, a < l.length ∧ r a < r i) : (ord l).length = l.length := by
  have key : ∀ n i, r i = n → i < l.length → i ∈ ord l := by
    intro n
    induction n using Nat.strongRecOn with
    | _ n ih =>
      intro i hn hi
      have h1 := nxt_none (ord_none l) hi
      rcases Classical.em (i ∈ ord l) with h2 | h2
      · exact h2
      · exfalso
        have : rdy l (ord l) i = true := rdy_iff.2 ⟨h2, fun a ha => by
          have h3 := h i hi a ha
          exact ih (r a) (by omega) a rfl h3.1⟩
        rw [h1] at this; cases this
  have h1 := sub_len (xs := List.range l.length) (ys := ord l) List.nodup_range fun x hx => key _ x rfl (List.mem_range.1 hx)
  have h2 := ordK_le l l.length
  rw [List.length_range] at h1
  unfold ord at *; omega

def sg (i k : Nat) : Nat := if k < i then k else k + 1
theorem sg_ne (i k : Nat) : sg i k ≠ i := by unfold sg; split <;> omega
theorem sg_lt {i k j : Nat} (h : j < k) : sg i j < sg i k := by
  unfold sg
  repeat' split
  all_goals omega
theorem sg_inv {i p : Nat} (h : p ≠ i) : ∃ k, sg i k = p := by
  rcases Nat.lt_or_ge p i with h1 | h1
  · exact ⟨p, by unfold sg; rw [if_pos h1]⟩
  · exact ⟨p - 1, by unfold sg; rw [if_neg (by omega)]; omega⟩
theorem sg_bd {n i k : Nat} (hi : i < n) (h : k < n - 1) : sg i k < n := by unfold sg; split <;> omega
theorem sg_back {n i k : Nat} (hi : i < n) (h : sg i k < n) : k < n - 1 := by unfold sg at h; split at h <;> omega
def noS (s : ByteArray) (t : Tk) : Tk := { t with af := t.af.filter fun x => !decide (x = s) }
def dnT (l : List Tk) (i : Nat) : List Tk := (l.eraseIdx i).map (noS (tkA l i).nm)
theorem dnT_len {l : List Tk} {i : Nat} (hi : i < l.length) : (dnT l i).length = l.length - 1 := by
  unfold dnT; rw [List.length_map, List.length_eraseIdx, if_pos hi]
theorem dnT_at {l : List Tk} {i k : Nat} (hi : i < l.length) (hk : k < l.length - 1) : tkA (dnT l i) k = noS (tkA l i).nm (tkA l (sg i k)) := by
  have h1 := sg_bd hi hk
  have h2 : (l.eraseIdx i)[k]? = l[sg i k]? := by
    rw [List.getElem?_eraseIdx]; unfold sg; split <;> rfl
  unfold dnT
  rw [show tkA ((l.eraseIdx i).map (noS (tkA l i).nm)) k = (((l.eraseIdx i).map (noS (tkA l i).nm))[k]?).getD t0 from rfl, List.getElem?_map, h2, List.getElem?_eq_getElem h1]
  rw [tkA_get h1]; rfl
theorem take_filter {α : Type} {p : α → Bool} : ∀ (xs : List α) (k : Nat), ∃ m, (xs.filter p).take k = (xs.take m).filter p ∧ ∀ (hk : k < (xs.filter p).length), ∃ hm : m < xs.length, xs[m] = (xs.filter p)[k]
  | [], k => ⟨0, by simp, fun hk => by simp at hk⟩
  | x :: xs, k => by
    cases hx : p x
    · obtain ⟨m, h1, h2⟩ := take_filter (p := p) xs k
      refine ⟨m + 1, by rw [List.filter_cons_of_neg (by rw [hx]; decide), h1, List.take_succ_cons, List.filter_cons_of_neg (by rw [hx]; decide)], fun hk => ?_⟩
      have e : (x :: xs).filter p = xs.filter p := List.filter_cons_of_neg (by rw [hx]; decide)
      obtain ⟨hm, e2⟩ := h2 (by rw [e] at hk; exact hk)
      exact ⟨by simpa using hm, by simp only [e, List.getElem_cons_succ]; exact e2⟩
    · have e : (x :: xs).filter p = x :: xs.filter p := List.filter_cons_of_pos hx
      cases k with
      | zero => exact ⟨0, by simp, fun hk => ⟨by simp, by simp only [e, List.getElem_cons_zero]⟩⟩
      | succ k =>
        obtain ⟨m, h1, h2⟩ := take_filter (p := p) xs k
        refine ⟨m + 1, by rw [e, List.take_succ_cons, h1, List.take_succ_cons, List.filter_cons_of_pos hx], fun hk => ?_⟩
        obtain ⟨hm, e2⟩ := h2 (by rw [e] at hk; simpa using hk)
        exact ⟨by simpa using hm, by simp only [e, List.getElem_cons_succ]; exact e2⟩
section
variable {l : List Tk} {i : Nat}
theorem dn_fnd (h : okP l) (hi : i < l.length) {s : ByteArray} (hs : s ≠ (tkA l i).nm) (hf : fnd l s < l.length) : fnd (dnT l i) s < l.length - 1 ∧ sg i (fnd (dnT l i) s) = fnd l s := by
  have hne : fnd l s ≠ i := fun e => hs (by rw [← e]; exact (fnd_at hf).symm)
  obtain ⟨k, hk⟩ := sg_inv hne
  have hkl := sg_back hi (by rw [hk]; exact hf)
  have : fnd (dnT l i) s = k := fnd_eq (by rw [dnT_len hi]; exact hkl) (by rw [dnT_at hi hkl]; show (tkA l (sg i k)).nm = s; rw [hk]; exact fnd_at hf) fun j hj => by
    rw [dnT_at hi (by omega)]
    show (tkA l (sg i j)).nm ≠ s
    exact fnd_no (by rw [← hk]; exact sg_lt hj)
  rw [this]; exact ⟨hkl, hk⟩
theorem dn_af (h : okP l) (hi : i < l.length) {k : Nat} (hk : k < l.length - 1) {s : ByteArray} (hs : s ∈ (tkA (dnT l i) k).af) : s ∈ (tkA l (sg i k)).af ∧ s ≠ (tkA l i).nm := by
  rw [dnT_at hi hk] at hs
  have := List.mem_filter.1 hs
  exact ⟨this.1, by simpa using this.2⟩
theorem dn_afs (h : okP l) (hi : i < l.length) {k a : Nat} (hk : k < l.length - 1) (ha : a ∈ afs (dnT l i) k) : a < l.length - 1 ∧ sg i a ∈ afs l (sg i k) := by
  unfold afs at ha
  obtain ⟨s, hs, rfl⟩ := List.mem_map.1 ha
  obtain ⟨h1, h2⟩ := dn_af h hi hk hs
  obtain ⟨h3, h4⟩ := dn_fnd h hi h2 (h.known _ (sg_bd hi hk) s h1)
  exact ⟨h3, by rw [h4]; exact List.mem_map.2 ⟨s, h1, rfl⟩⟩
theorem dn_ok (h : okP l) (hi : i < l.length) (h1 : l.length ≠ 1) : okP (dnT l i) := by
  have hp := h.pos; have hl := h.len
  refine ⟨by rw [dnT_len hi]; omega, by rw [dnT_len hi]; omega, fun k hk => ?_, fun k hk => ?_, fun k hk => ?_, fun k hk s hs => ?_, fun k hk q hq => ?_, ?_⟩
  · rw [dnT_len hi] at hk; rw [dnT_at hi hk]; exact h.each _ (sg_bd hi hk)
  · rw [dnT_len hi] at hk
    have hsl := sg_bd hi hk
    have e : (tkA (dnT l i) k).nm = (tkA l (sg i k)).nm := by rw [dnT_at hi hk]; rfl
    rw [e]
    have ha := h.apart _ hsl
    obtain ⟨h3, h4⟩ := dn_fnd h hi (s := (tkA l (sg i k)).nm) (fun e => sg_ne i k (apN_inj h.apart hsl hi e)) (by rw [ha]; exact hsl)
    rw [ha] at h4
    rcases Nat.lt_trichotomy (fnd (dnT l i) (tkA l (sg i k)).nm) k with h5 | h5 | h5
    · have := sg_lt (i := i) h5; omega
    · exact h5
    · have := sg_lt (i := i) h5; omega
  · rw [dnT_len hi] at hk; rw [dnT_at hi hk]
    exact Nat.le_trans (List.length_filter_le ..) (h.few _ (sg_bd hi hk))
  · rw [dnT_len hi] at hk ⊢
    obtain ⟨h1, h2⟩ := dn_af h hi hk hs
    exact (dn_fnd h hi h2 (h.known _ (sg_bd hi hk) s h1)).1
  · rw [dnT_len hi] at hk
    have hsl := sg_bd hi hk
    rw [afA_get hq]
    have e : (tkA (dnT l i) k).af = (tkA l (sg i k)).af.filter fun x => !decide (x = (tkA l i).nm) := by rw [dnT_at hi hk]; rfl
    simp only [e] at hq ⊢
    obtain ⟨m, g1, g2⟩ := take_filter (p := fun x => !decide (x = (tkA l i).nm)) (tkA l (sg i k)).af q
    obtain ⟨hm, g3⟩ := g2 hq
    rw [g1, ← g3]
    intro hh
    have := h.once _ hsl m hm
    rw [afA_get hm] at this
    exact this (List.mem_filter.1 hh).1
  · rw [show (dnT l i).length = (dnT l i).length from rfl]
    refine ord_of_rank (fun k => (gI (ear l) (sg i k)).toNat) fun k hk a ha => ?_
    rw [dnT_len hi] at hk ⊢
    obtain ⟨h3, h4⟩ := dn_afs h hi hk ha
    refine ⟨h3, ?_⟩
    have h5 := ear_le h (sg_bd hi hk) h4
    have h6 := (dy_bd h (sg_bd hi h3)).1
    have h7 := ear_pos h (sg i a)
    omega
theorem dn_dy (hi : i < l.length) {k : Nat} (hk : k < l.length - 1) : dyA (dnT l i) k = dyA l (sg i k) := by unfold dyA; rw [dnT_at hi hk]; rfl
theorem dn_lenV (h : okP l) (hi : i < l.length) (h1 : l.length ≠ 1) : lenV (dnT l i) ≤ lenV l := by
  have h' := dn_ok h hi h1
  have key : ∀ k, k < (dnT l i).length → gI (ear (dnT l i)) k ≤ gI (ear l) (sg i k) := by
    refine ord_ind h' fun k hk ih => ?_
    have hk2 := hk
    rw [dnT_len hi] at hk2
    rcases ear_some h' hk with h2 | ⟨a, ha, h2⟩
    · have := ear_pos h (sg i k); omega
    · obtain ⟨h3, h4⟩ := dn_afs h hi hk2 ha
      have h5 := ih a ha
      have h6 := ear_le h (sg_bd hi hk2) h4
      rw [h2, dn_dy hi h3]; omega
  obtain ⟨k, hk, e⟩ := lenV_end h'
  have h2 := key k hk
  rw [dnT_len hi] at hk
  have h3 := ear_end (l := l) (sg_bd hi hk)
  rw [e, dn_dy hi hk]; omega
end
end Go.Proofs.Ytgijekhlbkfanaa

namespace Go.Proofs.Ytgijekhlbkfanaa

def dnE (l : List Tk) (s : ByteArray) : Int := if nmE l s = 0 then (if 0 < (tkA l (fnd l s)).af.length then 10 else if l.length = 1 then 8 else 0) else nmE l s
def dnK (l : List Tk) (F k : Nat) : List Tk := ((l.take k).eraseIdx F).map (noS (tkA l F).nm)
theorem dnK_zero (l : List Tk) (F : Nat) : dnK l F 0 = [] := by simp [dnK]
theorem dnK_all (l : List Tk) (F : Nat) : dnK l F l.length = dnT l F := by unfold dnK dnT; rw [List.take_length]
theorem dnK_next {l : List Tk} {F k : Nat} (hk : k < l.length) : dnK l F (k + 1) = if k = F then dnK l F k else dnK l F k ++ [noS (tkA l F).nm (tkA l k)] := by
  have hx : tkA l k = l[k] := by unfold tkA; rw [List.getElem?_eq_getElem hk]; rfl
  have hl : (l.take k).length = k := by rw [List.length_take]; omega
  unfold dnK
  rw [List.take_succ_eq_append_getElem hk]
  by_cases hF : F < k
  · rw [if_neg (by omega), List.eraseIdx_append_of_lt_length (by rw [hl]; exact hF), List.map_append, hx]
    rfl
  · have h1 : (l.take k ++ [l[k]]).eraseIdx F = l.take k ++ [l[k]].eraseIdx (F - k) := by rw [List.eraseIdx_append_of_length_le (by rw [hl]; omega), hl]
    have h2 : (l.take k).eraseIdx F = l.take k := List.eraseIdx_of_length_le (by rw [hl]; omega)
    rw [h1, h2]
    by_cases hkF : k = F
    · subst hkF
      rw [if_pos rfl, Nat.sub_self]
      simp
    · rw [if_neg hkF, List.eraseIdx_of_length_le (by simp; omega), List.map_append, hx]
      rfl
def afK (nm : ByteArray) (ss : List ByteArray) (j : Nat) : List ByteArray := (noS nm { nm := nm, dy := 0, mn := 0, af := ss.take j }).af
theorem afK_zero (nm : ByteArray) (ss : List ByteArray) : afK nm ss 0 = [] := by unfold afK noS; simp
theorem afK_all (nm : ByteArray) (t : Tk) : noS nm t = { nm := t.nm, dy := t.dy, mn := t.mn, af := afK nm t.af t.af.length } := by unfold afK noS; rw [List.take_length]
theorem afK_next {nm : ByteArray} {ss : List ByteArray} {j : Nat} (hj : j < ss.length) : afK nm ss (j + 1) = if ss[j] = nm then afK nm ss j else afK nm ss j ++ [ss[j]] := by
  unfold afK noS
  rw [List.take_succ_eq_append_getElem hj]
  simp only [List.filter_append]
  by_cases h : ss[j] = nm
  · simp [h]
  · rw [if_neg h]
    simp [h]
theorem afK_len (nm : ByteArray) (ss : List ByteArray) (j : Nat) : (afK nm ss j).length ≤ j := by
  unfold afK noS
  have h1 := List.length_filter_le (fun x => decide (x ≠ nm)) (ss.take j)
  have h2 : (ss.take j).length ≤ j := by rw [List.length_take]; omega
  simp at h1 ⊢
  omega
end Go.Proofs.Ytgijekhlbkfanaa

namespace Go.Proofs.Ytgijekhlbkfanaa
open Go.RowKit
attribute [local go_sem] Later.cell Same.cell

theorem Strs.grown {w w' : World} {B n : Nat} {A : Option Addr} {ss : List ByteArray} {row : Option Nat} (h : Strs w B A n ss) (hg : w.grownBy w' row) (hn : 0 < n → ∀ b off, A = some ⟨b, off, none⟩ → some b ≠ row) : Strs w' B A n ss := by
  refine ⟨h.1, fun h0 => ?_⟩
  obtain ⟨b, off, h1, h2, h3⟩ := h.2 h0
  refine ⟨b, off, h1, h2, fun k hk j u hu => ?_⟩
  exact hg.cell (h3 k hk j u hu) (hn h0 b off h1)
/-- Plan rows of the call's own that grow. -/
structure OPv (W : World) (base : Nat) (v : Value) (n : Nat) (xs : List TkR) : Prop where
  own : W.ownsRow base 43 4 v n (tcel xs)
  ok : ∀ x ∈ xs, okR W W.heap.size x
  nb : ∀ x ∈ xs, 0 < x.1.2.1 → ∀ b off, x.1.1 = some ⟨b, off, none⟩ → some b ≠ v.ownBlock
theorem OPv.nil (W : World) (base : Nat) : OPv W base (.slice none 0 0) 0 [] := ⟨World.ownsRow_nil _ _ _ _, fun x hx => absurd hx (by simp), fun x hx => absurd hx (by simp)⟩
theorem OPv.later {W W' : World} {base n : Nat} {v : Value} {xs : List TkR} (h : OPv W base v n xs) (hb : Below W.heap.size W W') : OPv W' base v n xs := ⟨jown_later h.own hb, fun x hx => (h.ok x hx).go hb, h.nb⟩
theorem OPv.to {W : World} {base n : Nat} {v : Value} {xs : List TkR} (h : OPv W base v n xs) (hn : 0 < n) : ∃ g cap, v = .slice (some ⟨g, 0, none⟩) n cap ∧ (n ≤ cap ∧ cap ≤ maxLen) ∧ OPl W base g cap n xs := by
  obtain ⟨g, cap, rfl, h1, h2⟩ := own_tasks h.own hn
  exact ⟨g, cap, rfl, ⟨h1, h2⟩, h.own, h.ok, fun x hx h0 b off e hh => h.nb x hx h0 b off e (by rw [hh]; rfl)⟩
theorem okR.lt {W : World} {B : Nat} {x : TkR} (h : okR W B x) (h0 : 0 < x.1.2.1) : ∀ b off, x.1.1 = some ⟨b, off, none⟩ → b < B := fun b off e => by
  obtain ⟨b', off', e1, e2, -⟩ := h.2.2 h0
  rw [e] at e1
  injection e1 with e1
  injection e1 with e1 e3
  omega
theorem OPv.push {W W' : World} {base n : Nat} {v v' : Value} {xs : List TkR} {y : TkR} (h : OPv W base v n xs) (hy : okR W W.heap.size y) (hny : 0 < y.1.2.1 → ∀ b off, y.1.1 = some ⟨b, off, none⟩ → some b ≠ v.ownBlock)
    (ho : W'.ownsRow base 43 4 v' (n + 1) (tcel xs ++ tk4 y)) (hg : W.grownBy W' v.ownBlock) (hat : v'.ownBlock = v.ownBlock ∨ v'.ownBlock = some W.heap.size) : OPv W' base v' (n + 1) (xs ++ [y]) := by
  have hs := hg.size
  have hk : ∀ x, okR W W.heap.size x → (0 < x.1.2.1 → ∀ b off, x.1.1 = some ⟨b, off, none⟩ → some b ≠ v.ownBlock) → okR W' W'.heap.size x := fun x h1 h2 => ⟨h1.1, (h1.2.grown hg h2).more hs⟩
  have hn : ∀ x, okR W W.heap.size x → (0 < x.1.2.1 → ∀ b off, x.1.1 = some ⟨b, off, none⟩ → some b ≠ v.ownBlock) → (0 < x.1.2.1 → ∀ b off, x.1.1 = some ⟨b, off, none⟩ → some b ≠ v'.ownBlock) := fun x h1 h2 h0 b off e => by
    rcases hat with hh | hh
    · rw [hh]; exact h2 h0 b off e
    · rw [hh]
      have := h1.lt h0 b off e
      intro e2
      injection e2 with e2
      omega
  refine ⟨by rw [tcel_app]; simpa [tcel] using ho, fun x hx => ?_, fun x hx => ?_⟩
  · rcases List.mem_append.1 hx with hx | hx
    · exact hk x (h.ok x hx) (h.nb x hx)
    · rw [List.mem_singleton.1 hx]; exact hk y hy hny
  · rcases List.mem_append.1 hx with hx | hx
    · exact hn x (h.ok x hx) (h.nb x hx)
    · rw [List.mem_singleton.1 hx]; exact hn y hy hny
theorem rnews4 (W : World) (x : TkR) (t : TypeId) : ∀ j u, (tk4 x)[j]? = some u → (W.alloc (.cells (tk4 x).toArray t)).cell? ((⟨W.heap.size, 0, none⟩ : Addr).add j) = some u := by
  intro j u hj
  have := (CA.new W (tk4 x) t).2 j u hj
  rw [Addr.add_lit, Nat.zero_add]
  exact this.1
def RcR (l : List Tk) (w : World) (v k' : Value) (W : World) : Prop := ∃ (k : Nat) (xs : List TkR), k ≤ l.length ∧ k' = .int .i64 (k : Int) ∧ xs.map (·.2) = l.take k ∧ Hid (OPv W w.heap.size v k xs) ∧ Below w.heap.size w W
set_option maxRecDepth 20000 in
set_option maxHeartbeats 16000000 in
theorem rcopied_any (A : Option Addr) (len cap : Nat) (l : List Tk) (w : World) (hP : okP l) (hx : Plan w w.heap.size A len l) :
    Calls Try.prog 83 #[.slice A len cap] w fun e w' => (∃ g cap' xs, e = .returned (.slice (some ⟨g, 0, none⟩) len cap') ∧ (len ≤ cap' ∧ cap' ≤ maxLen) ∧ xs.map (·.2) = l ∧ OPl w' w.heap.size g cap' len xs) ∧ Below w.heap.size w w' := by
  obtain rfl : l.length = len := hx.1
  have hL := hP.len
  obtain ⟨i0, hi, hz0, hz1, hz2⟩ := info_parts info_task
  have hI0 := Lib.hid hi
  have hI1 := Lib.hid hz0
  have hI2 := Lib.hid hz1
  have hI3 := Lib.hid hz2
  obtain ⟨k0, hk, ky0, ky1, ky2⟩ := info_parts info_str
  have hJ0 := Lib.hid hk
  have hJ1 := Lib.hid ky0
  have hJ2 := Lib.hid ky1
  have hJ3 := Lib.hid ky2
  have HP := Lib.hid hP
  have HX := Lib.hid hx
  clear hP hx hi hz0 hz1 hz2 hk ky0 ky1 ky2
  go_enter Try.func83, Try.ntmps83
  go_wp2
  go_loopw [3, 4] (fun v i W => RcR l w v i W) (fun _ i _ => l.length - (intOf i).toNat)
  case atStart => exact ⟨0, [], Nat.zero_le _, rfl, rfl, Lib.hid (OPv.nil _ _), Below.refl _ _⟩
  case round =>
    obtain ⟨k, xs, hk, rfl, hmx, HO, hB⟩ := hrel
    have hbs := hB.size
    by_cases hlt : k < l.length
    · obtain ⟨b, off, rfl, hb0, hc1, hc2, hc3, A', n, cc, hc4, hn1, hn2, hSt⟩ := (HX.out.below hB).at_ k hlt
      have hfew := HP.out.few k hlt
      have hmx2 : ∀ a : Option Addr × Nat × Nat, (xs ++ [(a, tkA l k)]).map (·.2) = l.take (k + 1) := fun a => by
        rw [List.map_append, hmx, List.take_succ_eq_append_getElem hlt]
        have : tkA l k = l[k] := by unfold tkA; rw [List.getElem?_eq_getElem hlt]; rfl
        rw [this]; rfl
      have HMX := Lib.hid hmx2
      obtain rfl : (tkA l k).af.length = n := hSt.1
      have HT := Lib.hid (rfl : tkA l k = { nm := (tkA l k).nm, dy := (tkA l k).dy, mn := (tkA l k).mn, af := (tkA l k).af })
      generalize htk : tkA l k = t at *
      obtain ⟨X, Y, Z, ss⟩ := t
      have hk1 : (k : Int) < l.length := by omega
      have hk2 : ¬ l.length ≤ k := by omega
      have hbr : b < wr.heap.size := by omega
      have HB := Lib.hid hB
      change ss.length ≤ 10 at hfew
      have HSt := Lib.hid (hSt.more hbs)
      have hst0 : ss.length = 0 ∨ ∃ b' off', A' = some ⟨b', off', none⟩ := by
        rcases Nat.eq_zero_or_pos ss.length with h | h
        · exact .inl h
        · obtain ⟨b', off', e, -⟩ := hSt.2 h; exact .inr ⟨b', off', e⟩
      have HA0 : Hid (A' = none → ss.length = 0) := Lib.hid (fun h => Rows.nil0 hSt h)
      clear hmx hmx2 hSt htk hB
      change wr.cell? _ = some (.string X) at hc1
      change wr.cell? _ = some (.int .i64 Y) at hc2
      change wr.cell? _ = some (.int .i64 Z) at hc3
      obtain ⟨W1, hW1⟩ : ∃ W1, W1 = wr.alloc (.cells #[.string X, .int .i64 Y, .int .i64 Z, .slice A' ss.length cc] 43) := ⟨_, rfl⟩
      have hCA1 : CA W1 wr.heap.size [.string X, .int .i64 Y, .int .i64 Z, .slice A' ss.length cc] := by rw [hW1]; exact CA.new wr _ _
      have hb1 : Below wr.heap.size wr W1 := by rw [hW1]; exact (Below.refl _ _).alloc (Nat.le_refl _) _
      have hs1 : W1.heap.size = wr.heap.size + 1 := by rw [hW1]; simp
      go_wp2_with (at_builtin; go_loud (refine wpList_append_src rfl (.tmp 16) (.tmp 21) 41 rfl (wr.heap.size + 1) 9 k0 (.string ByteArray.empty) 1 16 Try.underlying41 hJ0.out hJ1.out hJ2.out hJ3.out rfl (by decide) (.slice (some ⟨wr.heap.size + 1, 0, none⟩) 0 0) 0 [] rfl (by have := World.ownsRow_made (base := wr.heap.size + 1) (e := 9) (size := 1) (wr.alloc (.cells #[.string X, .int .i64 Y, .int .i64 Z, .slice A' ss.length cc] 43)) #[] 0 (by simp) (by decide) rfl; simpa using this) (by simp) A' ss.length cc (scel ss) rfl (by rw [scel_len]; omega) HA0.out ?qc2 (scel_one ss) (by unfold maxLen; omega) (by omega) (by simp) ?_))
      case qc2 =>
        have h2 := Strs.cells (HSt.out.below hb1)
        rw [hW1] at h2
        rcases h2 with h | ⟨b', off', h1, h2⟩
        · exact .inl h
        · exact .inr ⟨b', off', h1, fun j u hj => Lib.cell?_alloc_some _ (h2 j u hj)⟩
      intro v3 w3 hown3 hgrow3 _
      rw [← hW1] at hgrow3
      have hb13 : Below W1.heap.size W1 w3 := ((Below.refl _ _).alloc (Nat.le_refl _) _).trans (grown_below hgrow3 (by simp) (fun q hq => by simp [Value.ownBlock] at hq; omega))
      obtain ⟨A3, cap3, rfl, hm1, hm2, hS3, hn3⟩ := own_strs (show w3.ownsRow (wr.heap.size + 1) 9 1 v3 ss.length (scel ss) by simpa using hown3)
      have hCA3 := hCA1.later hb13
      have hb3 : Below wr.heap.size wr w3 := hb1.trans (hb13.mono (by omega))
      obtain ⟨z3, f3⟩ := hCA3.2 3 _ rfl
      obtain ⟨z30, -⟩ := hCA3.2 0 _ rfl
      obtain ⟨z31, -⟩ := hCA3.2 1 _ rfl
      obtain ⟨z32, -⟩ := hCA3.2 2 _ rfl
      have hs3 := hb13.size
      have hS3' : Strs w3 w3.heap.size A3 ss.length ss := hS3
      have HCA4 : Hid (CA (w3.setCell ⟨wr.heap.size, 3, none⟩ (.slice A3 ss.length cap3)) wr.heap.size [.string X, .int .i64 Y, .int .i64 Z, .slice A3 ss.length cap3]) := Lib.hid (by
        have := hCA3.set (k := 3) (by simp) (.slice A3 ss.length cap3)
        simpa using this)
      have HB4 : Hid (Below wr.heap.size wr (w3.setCell ⟨wr.heap.size, 3, none⟩ (.slice A3 ss.length cap3))) := Lib.hid (hb3.setCell (p := ⟨wr.heap.size, 3, none⟩) (Nat.le_refl _) _)
      have HS4 : Hid (Strs (w3.setCell ⟨wr.heap.size, 3, none⟩ (.slice A3 ss.length cap3)) (w3.setCell ⟨wr.heap.size, 3, none⟩ (.slice A3 ss.length cap3)).heap.size A3 ss.length ss) := Lib.hid (by
        rw [World.size_setCell]
        exact hS3'.store (fun _ b off e => by have := hn3 b off e; omega))
      have hss4 : (w3.setCell ⟨wr.heap.size, 3, none⟩ (.slice A3 ss.length cap3)).heap.size = w3.heap.size := World.size_setCell ..
      obtain ⟨W4, hW4⟩ : ∃ W4, W4 = w3.setCell ⟨wr.heap.size, 3, none⟩ (.slice A3 ss.length cap3) := ⟨_, rfl⟩
      rw [← hW4] at HCA4 HB4 HS4 hss4
      subst hW4
      have HN3 := Lib.hid hn3
      have HO4 := Lib.hid (HO.out.later HB4.out)
      have HLT := Lib.hid (fun q hq => (HO.out.own.lt q hq).2)
      clear hown3 hgrow3 hb13 hb3 hCA3 hCA1 hS3 hS3' hn3 hW1 hb1 hc1 hc2 hc3 hc4 HA0 hst0
      have HO5 := Lib.hid (HO4.out.later ((Below.refl _ _).alloc (Nat.le_refl _) (.cells #[.string X, .int .i64 Y, .int .i64 Z, .slice A3 ss.length cap3] 43)))
      have HY5 : Hid (okR _ _ (((A3, ss.length, cap3), { nm := X, dy := Y, mn := Z, af := ss }) : TkR)) := Lib.hid (okR.go ⟨⟨hm1, hm2⟩, HS4.out⟩ ((Below.refl _ _).alloc (Nat.le_refl _) (.cells #[.string X, .int .i64 Y, .int .i64 Z, .slice A3 ss.length cap3] 43)))
      have hk20 : k < 20 := by omega
      go_wp2_with (at_builtin; go_loud (refine wpList_append_own_at _ rfl (.tmp 24) (.tmp 26) 31 rfl w.heap.size 43 i0 (.agg #[.string ByteArray.empty, .int .i64 0, .int .i64 0, .slice none 0 0]) 4 56 Try.underlying31 hI0.out hI1.out hI2.out hI3.out rfl (by decide) _ k (tcel xs) rfl HO5.out.own ⟨w3.heap.size, 0, none⟩ 1 1 (tk4 (((A3, ss.length, cap3), { nm := X, dy := Y, mn := Z, af := ss }) : TkR)) rfl rfl (by have := rnews4 (w3.setCell ⟨wr.heap.size, 3, none⟩ (.slice A3 ss.length cap3)) (((A3, ss.length, cap3), { nm := X, dy := Y, mn := Z, af := ss }) : TkR) 43; rw [World.size_setCell] at this; exact this) (by intro u hu; exact tcel_one [(((A3, ss.length, cap3), { nm := X, dy := Y, mn := Z, af := ss }) : TkR)] u (by simpa [tcel] using hu)) (by unfold maxLen; omega) (by omega) (by simp; omega) ?_))
      intro v8 w8 hown8 hgrow8 _ hat8
      have hbw := HB.out.trans (HB4.out.mono hbs)
      have hb8 : Below w.heap.size w w8 := (hbw.alloc hbw.size _).trans (grown_below hgrow8 (by simp; omega) (fun q hq => (HO5.out.own.lt q hq).1))
      have HO8 := Lib.hid (HO5.out.push HY5.out (fun _ b off e hh => by
        have h1 := HN3.out b off e
        have h2 := HLT.out b hh.symm
        omega) hown8 hgrow8 (by rw [World.size_alloc, World.size_setCell]; exact hat8))
      have HM8 := Lib.hid (HMX.out (A3, ss.length, cap3))
      clear hown8 hgrow8 hat8 hbw
      go_wp2
      go_roundw
      case rel => exact ⟨k + 1, _, by omega, by go_num, HM8.out, HO8, hb8⟩
      case measure => simp [intOf]; omega
    · have hkl : k = l.length := by omega
      subst hkl
      have hk1 : ¬ (l.length : Int) < l.length := by omega
      rw [List.take_length] at hmx
      obtain ⟨g, cap', rfl, hq, hO⟩ := HO.out.to HP.out.pos
      have HO' := Lib.hid hO
      have HB := Lib.hid hB
      have HQ := Lib.hid hq
      have HMX := Lib.hid hmx
      clear hO hB hq hmx HO
      go_wp2
      go_ret
      exact ⟨⟨g, cap', rfl, HQ.out, xs, HMX.out, HO'.out⟩, HB.out⟩
end Go.Proofs.Ytgijekhlbkfanaa

namespace Go.Proofs.Ytgijekhlbkfanaa
open Go.RowKit
attribute [local go_sem] Later.cell Same.cell

set_option maxRecDepth 20000 in
set_option maxHeartbeats 8000000 in
theorem rnamed_any (A : Option Addr) (len cap : Nat) (l : List Tk) (s : ByteArray) (w : World) (hS : Sml l) (hs : s.size ≤ 9223372036854775807) (hx : Plan w w.heap.size A len l) :
    Calls Try.prog 79 #[.slice A len cap, .string s] w fun e w' => e = .returned (.tuple #[.int .i64 (nmV l s), .int .i64 (nmE l s)]) ∧ Below w.heap.size w w' := by
  obtain rfl : l.length = len := hx.1
  have c1 := rCheck_any A l.length cap l w hS hx
  have c2 := fun W (h : Below w.heap.size w W) => find_any A l.length cap l s W (by have := hS.len; omega) (hx.go h)
  rcases nm_cases l s with ⟨h0, h1, h2, h3⟩ | ⟨h0, h1, h2, h3⟩ | ⟨h0, h2, h3⟩
  · rw [h2, h3]
    rw [h0] at c1
    have hf : fndZ l s = (fnd l s : Int) := by unfold fndZ; rw [if_pos h1]
    simp only [hf] at c2
    generalize fnd l s = F at *
    have C1 := Lib.hid c1
    have C2 := Lib.hid c2
    have hF : ¬ (F : Int) < 0 := by omega
    clear c1 c2 hx h0 h1 h2 h3 hf
    go_enter Try.func79, Try.ntmps79
    go_wp2_with fail
    refine C1.out.mono ?_
    rintro e w1 ⟨rfl, hb⟩
    have HB1 := Lib.hid hb
    clear hb
    go_wp2_with fail
    refine (C2.out _ HB1.out).mono ?_
    rintro e w2 ⟨rfl, hb⟩
    have HB2 := Lib.hid (HB1.out.trans (hb.mono HB1.out.size))
    clear hb
    go_wp2
    go_ret2
    exact ⟨rfl, HB2.out⟩
  · rw [h2, h3]
    rw [h0] at c1
    have hf : fndZ l s = -1 := by unfold fndZ; rw [if_neg h1]
    simp only [hf] at c2
    have C1 := Lib.hid c1
    have C2 := Lib.hid c2
    clear c1 c2 hx h0 h1 h2 h3 hf
    go_enter Try.func79, Try.ntmps79
    go_wp2_with fail
    refine C1.out.mono ?_
    rintro e w1 ⟨rfl, hb⟩
    have HB1 := Lib.hid hb
    clear hb
    go_wp2_with fail
    refine (C2.out _ HB1.out).mono ?_
    rintro e w2 ⟨rfl, hb⟩
    have HB2 := Lib.hid (HB1.out.trans (hb.mono HB1.out.size))
    clear hb
    go_wp2
    go_ret2
    exact ⟨rfl, HB2.out⟩
  · rw [h2, h3]
    have hne : (checkE l == 0) = false := by simpa using h0
    generalize checkE l = E at *
    have C1 := Lib.hid c1
    clear c1 c2 hx h0 h2 h3
    go_enter Try.func79, Try.ntmps79
    go_wp2_with fail
    refine C1.out.mono ?_
    rintro e w1 ⟨rfl, hb⟩
    have HB1 := Lib.hid hb
    clear hb
    go_wp2
    go_ret2
    exact ⟨rfl, HB1.out⟩
set_option maxRecDepth 20000 in
set_option maxHeartbeats 16000000 in
theorem rSlack_any (A : Option Addr) (len cap : Nat) (l : List Tk) (s : ByteArray) (w : World) (hS : Sml l) (hs : s.size ≤ 9223372036854775807) (hx : Plan w w.heap.size A len l) :
    Calls Try.prog 36 #[.slice A len cap, .string s] w fun e w' => e = .returned (.tuple #[.int .i64 (slkV l s), .int .i64 (nmE l s)]) ∧ Below w.heap.size w w' := by
  obtain rfl : l.length = len := hx.1
  have c1 := rnamed_any A l.length cap l s w hS hs hx
  by_cases h0 : nmE l s = 0
  · have hv : slkV l s = slk l (fnd l s) := if_pos h0
    have hn : nmV l s = (fnd l s : Int) := by unfold nmV; rw [if_pos h0]
    have hc : checkE l = 0 ∧ fnd l s < l.length := by
      rcases nm_cases l s with ⟨a, b, -⟩ | ⟨-, -, a, -⟩ | ⟨a, b, -⟩
      · exact ⟨a, b⟩
      · rw [h0] at a; cases a
      · rw [h0] at b; exact absurd b.symm a
    have hP := check_spec hc.1
    have c3 := fun W (h : Below w.heap.size w W) => rearliest_any A l.length cap l W hS hP (hx.go h)
    have c4 := fun W (h : Below w.heap.size w W) => (rlatest_any A l.length cap l W hS hP (hx.go h))
    simp only [← lat_eq hP] at c4
    have hse : slk l (fnd l s) = gI (latP l) (fnd l s) - gI (ear l) (fnd l s) := rfl
    rw [hn, h0] at c1
    rw [hv, h0]
    have hF := hc.2
    have hb1 := ear_bd hP (fnd l s)
    have hb2 := latK_bd hP (ord l).length
    rw [latK_end (Nat.le_refl _)] at hb2
    have hb3 := hb2 (fnd l s)
    have hol := hP.all
    have hl := hP.len
    have hF1 : ((fnd l s : Nat) : Int) < l.length := by omega
    have hF2 : ¬ l.length ≤ fnd l s := by omega
    generalize slk l (fnd l s) = V at *
    generalize fnd l s = F at *
    change ∀ W (h : Below w.heap.size w W), _ at c3
    have hge : gI (ear l) F = (ear l)[F]?.getD 0 := rfl
    have hgl : gI (latP l) F = (latP l)[F]?.getD 0 := rfl
    rw [hge, hgl] at hse
    rw [hge] at hb1
    rw [hgl] at hb3
    have hwr : wrap64 ((latP l)[F]?.getD 0 - (ear l)[F]?.getD 0) = (latP l)[F]?.getD 0 - (ear l)[F]?.getD 0 := IntWalk.wrap64_in _ ⟨by omega, by omega⟩
    have HV := Lib.hid hse
    have HF := Lib.hid hF
    have C1 := Lib.hid c1
    have C3 := Lib.hid c3
    have C4 := Lib.hid c4
    clear c1 c3 c4 hx h0 hv hn hc hse hF hb1 hb2 hb3 hge hgl hS hP hol
    go_enter Try.func36, Try.ntmps36
    go_wp2_with fail
    refine C1.out.mono ?_
    rintro e W1 ⟨rfl, hb⟩
    have HB1 := Lib.hid hb
    clear hb
    go_wp2_with fail
    refine wp_region_mix (by kernel_rfl) (by kernel_rfl) ?_
    refine wpC_take (f := 9) (by kernel_rfl) (by kernel_rfl) ⟨⟨_, (Below.refl _ _).drew⟩, rfl⟩ [0, 2, 5, 7] _ _ (by kernel_rfl) ?_
    simp only [List.map_cons, List.map_nil, List.getElem?_toArray, List.getElem?_cons_succ, List.getElem?_cons_zero, Option.getD_some]
    repeat (go_big_quiet_step (fail))
    refine wpQuiet_nil ?_
    have hB : Below W1.heap.size W1 W1.drew := (Below.refl _ _).drew
    refine wpC_all (rs := [1]) (by kernel_rfl) (by decide) ?_
    intro i hi
    simp only [List.mem_cons, List.not_mem_nil, or_false] at hi
    subst hi
    refine ⟨_, rfl, ?_⟩
    go_simp
    refine (C4.out _ (HB1.out.trans (hB.mono HB1.out.size))).mono ?_
    rintro e WW0 ⟨⟨v9, rfl, ho9⟩, hb9⟩
    obtain ⟨A1, k1, rfl, _, _, hL, hg9⟩ := own_ints ho9
    obtain ⟨b1, off1, e1, _, d1⟩ := hL.at_ F HF.out
    subst e1
    clear d1
    replace hB := below_step hB hb9
    clear hb9 ho9 hg9
    refine ⟨⟨⟨_, hB⟩, rfl⟩, ?_⟩
    go_simp
    refine wpC_take (f := 7) (by kernel_rfl) (by kernel_rfl) ⟨⟨_, hB⟩, rfl⟩ [3] _ _ (by kernel_rfl) ?_
    simp only [List.map_cons, List.map_nil, List.getElem?_toArray, List.getElem?_cons_succ, List.getElem?_cons_zero, Option.getD_some]
    repeat (go_big_quiet_step (fail))
    refine wpQuiet_nil ?_
    refine wpC_all (rs := [4, 6]) (by kernel_rfl) (by decide) ?_
    intro i hi
    simp only [List.mem_cons, List.not_mem_nil, or_false] at hi
    rcases hi with rfl | rfl
    · obtain ⟨b9, off9, e9, _, d9⟩ := hL.at_ F HF.out
      injection e9 with e9
      injection e9 with q1 q2
      subst q1 q2
      refine ⟨_, rfl, ?_⟩
      go_simp
      obtain ⟨WW1, hWk⟩ : ∃ q, q = WW0 := ⟨_, rfl⟩
      rw [← hWk] at hB hL ⊢
      clear d9 hWk
      refine ⟨⟨⟨_, hB⟩, rfl⟩, ?_⟩
      refine wpC_all (rs := [6]) (by kernel_rfl) (by decide) ?_
      intro i hi
      simp only [List.mem_cons, List.not_mem_nil, or_false] at hi
      subst hi
      refine ⟨_, rfl, ?_⟩
      go_simp
      refine (C3.out _ (HB1.out.trans (hB.mono HB1.out.size))).mono ?_
      rintro e WW2 ⟨⟨v9, rfl, ho9⟩, hb9⟩
      obtain ⟨A2, k2, rfl, _, _, hE, hg9⟩ := own_ints ho9
      obtain ⟨b6, off6, e6, _, d6⟩ := hE.at_ F HF.out
      subst e6
      clear d6
      replace hB := below_step hB hb9
      replace hL := (hL.below hb9).more hb9.size
      clear hb9 ho9 hg9
      refine ⟨⟨⟨_, hB⟩, rfl⟩, ?_⟩
      go_simp
      refine wpC_take (f := 4) (by kernel_rfl) (by kernel_rfl) ⟨⟨_, hB⟩, rfl⟩ [8] _ _ (by kernel_rfl) ?_
      simp only [List.map_cons, List.map_nil, List.getElem?_toArray, List.getElem?_cons_succ, List.getElem?_cons_zero, Option.getD_some]
      repeat (go_big_quiet_step (fail))
      refine wpQuiet_nil ?_
      refine wpC_all (rs := [9]) (by kernel_rfl) (by decide) ?_
      intro i hi
      simp only [List.mem_cons, List.not_mem_nil, or_false] at hi
      subst hi
      obtain ⟨b9, off9, e9, _, d9⟩ := hE.at_ F HF.out
      injection e9 with e9
      injection e9 with q1 q2
      subst q1 q2
      refine ⟨_, rfl, ?_⟩
      go_simp
      obtain ⟨WW3, hWk⟩ : ∃ q, q = WW2 := ⟨_, rfl⟩
      rw [← hWk] at hB hL hE ⊢
      clear d9 hWk
      refine ⟨⟨⟨_, hB⟩, rfl⟩, ?_⟩
      refine wpC_take (f := 0) (by kernel_rfl) (by kernel_rfl) ⟨⟨_, hB⟩, rfl⟩ [10, 11, 12] _ _ (by kernel_rfl) ?_
      simp only [List.map_cons, List.map_nil, List.getElem?_toArray, List.getElem?_cons_succ, List.getElem?_cons_zero, Option.getD_some]
      repeat (go_big_quiet_step (fail))
      refine wpQuiet_nil ?_
      refine wpC_done (by kernel_rfl) ?_
      have HFIN := Lib.hid (HB1.out.trans (hB.mono HB1.out.size))
      clear hB hE hL
      go_wp2
      go_ret2
      first | exact ⟨ret1 (by rw [HV.out]; rfl), HFIN.out⟩ | exact ⟨ret1 (by rw [← HV.out]), HFIN.out⟩
    · refine ⟨_, rfl, ?_⟩
      go_simp
      refine (C3.out _ (HB1.out.trans (hB.mono HB1.out.size))).mono ?_
      rintro e WW1 ⟨⟨v9, rfl, ho9⟩, hb9⟩
      obtain ⟨A2, k2, rfl, _, _, hE, hg9⟩ := own_ints ho9
      obtain ⟨b6, off6, e6, _, d6⟩ := hE.at_ F HF.out
      subst e6
      clear d6
      replace hB := below_step hB hb9
      replace hL := (hL.below hb9).more hb9.size
      clear hb9 ho9 hg9
      refine ⟨⟨⟨_, hB⟩, rfl⟩, ?_⟩
      go_simp
      refine wpC_take (f := 5) (by kernel_rfl) (by kernel_rfl) ⟨⟨_, hB⟩, rfl⟩ [8] _ _ (by kernel_rfl) ?_
      simp only [List.map_cons, List.map_nil, List.getElem?_toArray, List.getElem?_cons_succ, List.getElem?_cons_zero, Option.getD_some]
      repeat (go_big_quiet_step (fail))
      refine wpQuiet_nil ?_
      refine wpC_all (rs := [4, 9]) (by kernel_rfl) (by decide) ?_
      intro i hi
      simp only [List.mem_cons, List.not_mem_nil, or_false] at hi
      rcases hi with rfl | rfl
      · obtain ⟨b9, off9, e9, _, d9⟩ := hL.at_ F HF.out
        injection e9 with e9
        injection e9 with q1 q2
        subst q1 q2
        refine ⟨_, rfl, ?_⟩
        go_simp
        obtain ⟨WW2, hWk⟩ : ∃ q, q = WW1 := ⟨_, rfl⟩
        rw [← hWk] at hB hL hE ⊢
        clear d9 hWk
        refine ⟨⟨⟨_, hB⟩, rfl⟩, ?_⟩
        refine wpC_all (rs := [9]) (by kernel_rfl) (by decide) ?_
        intro i hi
        simp only [List.mem_cons, List.not_mem_nil, or_false] at hi
        subst hi
        obtain ⟨b9, off9, e9, _, d9⟩ := hE.at_ F HF.out
        injection e9 with e9
        injection e9 with q1 q2
        subst q1 q2
        refine ⟨_, rfl, ?_⟩
        go_simp
        obtain ⟨WW3, hWk⟩ : ∃ q, q = WW2 := ⟨_, rfl⟩
        rw [← hWk] at hB hL hE ⊢
        clear d9 hWk
        refine ⟨⟨⟨_, hB⟩, rfl⟩, ?_⟩
        refine wpC_take (f := 0) (by kernel_rfl) (by kernel_rfl) ⟨⟨_, hB⟩, rfl⟩ [10, 11, 12] _ _ (by kernel_rfl) ?_
        simp only [List.map_cons, List.map_nil, List.getElem?_toArray, List.getElem?_cons_succ, List.getElem?_cons_zero, Option.getD_some]
        repeat (go_big_quiet_step (fail))
        refine wpQuiet_nil ?_
        refine wpC_done (by kernel_rfl) ?_
        have HFIN := Lib.hid (HB1.out.trans (hB.mono HB1.out.size))
        clear hB hE hL
        go_wp2
        go_ret2
        first | exact ⟨ret1 (by rw [HV.out]; rfl), HFIN.out⟩ | exact ⟨ret1 (by rw [← HV.out]), HFIN.out⟩
      · obtain ⟨b9, off9, e9, _, d9⟩ := hE.at_ F HF.out
        injection e9 with e9
        injection e9 with q1 q2
        subst q1 q2
        refine ⟨_, rfl, ?_⟩
        go_simp
        obtain ⟨WW2, hWk⟩ : ∃ q, q = WW1 := ⟨_, rfl⟩
        rw [← hWk] at hB hL hE ⊢
        clear d9 hWk
        refine ⟨⟨⟨_, hB⟩, rfl⟩, ?_⟩
        refine wpC_all (rs := [4]) (by kernel_rfl) (by decide) ?_
        intro i hi
        simp only [List.mem_cons, List.not_mem_nil, or_false] at hi
        subst hi
        obtain ⟨b9, off9, e9, _, d9⟩ := hL.at_ F HF.out
        injection e9 with e9
        injection e9 with q1 q2
        subst q1 q2
        refine ⟨_, rfl, ?_⟩
        go_simp
        obtain ⟨WW3, hWk⟩ : ∃ q, q = WW2 := ⟨_, rfl⟩
        rw [← hWk] at hB hL hE ⊢
        clear d9 hWk
        refine ⟨⟨⟨_, hB⟩, rfl⟩, ?_⟩
        refine wpC_take (f := 0) (by kernel_rfl) (by kernel_rfl) ⟨⟨_, hB⟩, rfl⟩ [10, 11, 12] _ _ (by kernel_rfl) ?_
        simp only [List.map_cons, List.map_nil, List.getElem?_toArray, List.getElem?_cons_succ, List.getElem?_cons_zero, Option.getD_some]
        repeat (go_big_quiet_step (fail))
        refine wpQuiet_nil ?_
        refine wpC_done (by kernel_rfl) ?_
        have HFIN := Lib.hid (HB1.out.trans (hB.mono HB1.out.size))
        clear hB hE hL
        go_wp2
        go_ret2
        first | exact ⟨ret1 (by rw [HV.out]; rfl), HFIN.out⟩ | exact ⟨ret1 (by rw [← HV.out]), HFIN.out⟩
  · have hv : slkV l s = 0 := if_neg h0
    rw [hv]
    have hne : (nmE l s == 0) = false := by simpa using h0
    generalize nmE l s = E at *
    have C1 := Lib.hid c1
    clear c1 hx h0 hv
    go_enter Try.func36, Try.ntmps36
    go_wp2_with fail
    refine C1.out.mono ?_
    rintro e w1 ⟨rfl, hb⟩
    have hB_w1 : Below w.heap.size w w1 := (by repeat (first | exact Below.refl _ _ | assumption | refine Below.setCell ?_ (by first | (simp; done) | (simp; omega) | omega) _ | refine Below.drew ?_ | refine below_drewN ?_ _ | refine Below.alloc ?_ (by first | (simp; done) | (simp; omega) | omega) _ | refine below_alloc ?_ _ | refine below_step ?_ (by assumption))); have hz_w1 := hB_w1.size; clear hb
    go_wp2
    go_ret2
    exact ⟨rfl, (by repeat (first | exact Below.refl _ _ | assumption | refine Below.setCell ?_ (by first | (simp; done) | (simp; omega) | omega) _ | refine Below.drew ?_ | refine below_drewN ?_ _ | refine Below.alloc ?_ (by first | (simp; done) | (simp; omega) | omega) _ | refine below_alloc ?_ _ | refine below_step ?_ (by assumption)))⟩
end Go.Proofs.Ytgijekhlbkfanaa

namespace Go.Proofs.Ytgijekhlbkfanaa
open Go.RowKit

structure LtN (w : World) (N : Nat) where
  val : World
  h : Below N w val
instance ltnSome (w : World) (N : Nat) : Nonempty (LtN w N) := ⟨⟨w, Below.refl _ _⟩⟩
theorem LtN.cell {w : World} {N : Nat} (x : LtN w N) (b o : Nat) (hb : b < N) : x.val.cell? ⟨b, o, none⟩ = w.cell? ⟨b, o, none⟩ := x.h.cell (p := ⟨b, o, none⟩) hb
theorem wp_region_ltn {P : Program} {id : Nat} {Q : Exit → Act → World → Prop} {a : Act} {w : World} {l : List Oper} (N : Nat) (hm : P.follows .mixedOrders = true) (hg : noGuard l.toArray = true)
    (h : wpC P .any l.toArray (fun W => ∃ x : LtN w N, W = x.val) Q l.length (Array.replicate l.length false) a w.drew) : (Code.region id l.toArray true).wp P Q a w :=
  wp_region_any hm (wpC_any hg _ _ _ _ (by simpa using h))
/-- append(own row, one or more cells) as one operation. -/
theorem wp_append_own1 {P : Program} {w : World} {o : Oper} {a : Act} {K : Act → World → Prop} {Q : Exit → Act → World → Prop} (s x : Operand) (t : TypeId)
    (ho : o.op = .call { callee := .builtin .append, args := #[s, x], argTypes := #[t, t] })
    (base : Nat) (e : TypeId) (i : TypeInfo) (z : Value) (size bytes : Nat) (ht : P.underlying t = some (.slice e)) (hi : P.info? e = some i) (hz : i.zero = some z)
    (hsize : i.size = size) (hby : i.bytes = bytes) (hzs : z.cells.size = size) (hsz : 0 < size)
    (v : Value) (n : Nat) (xs : List Value) (hs : a.eval s = v) (hown : w.ownsRow base e size v n xs)
    (ad : Addr) (m c : Nat) (hm0 : 0 < m) (news : List Value) (hx : a.eval x = .slice (some ad) m c) (hl : news.length = m * size) (hnews : ∀ j u, news[j]? = some u → w.cell? (ad.add j) = some u) (h1 : ∀ u ∈ news, u.oneCell' = true)
    (h63 : n + m ≤ maxLen) (hbytes : (n + m) * bytes ≤ 140737488355328) (hbase : base ≤ w.heap.size)
    (h : ∀ g cap w', w'.ownsRow base e size (.slice (some ⟨g, 0, none⟩) (n + m) cap) (n + m) (xs ++ news) → w.grownBy w' v.ownBlock → K (a.put o.dst (.slice (some ⟨g, 0, none⟩) (n + m) cap)) w') : o.wp P a w K Q := by
  obtain ⟨v', w', hr, h2, h3, h4, h5⟩ := run_append_own_at (P := P) w base t o.type e i z size bytes ht hi hz hsize hby hzs hsz v n xs hown ad m c news hl hnews h1 h63 hbytes hbase
  have hv' : v' ≠ .slice none 0 0 := fun hh => by have := (h4.1 hh).2; omega
  obtain ⟨g, cap, rfl⟩ : ∃ g cap, v' = .slice (some ⟨g, 0, none⟩) (n + m) cap := by
    rcases h2.2 with ⟨h0, _⟩ | ⟨g, cap, cur, hv, _⟩
    · exact absurd h0 hv'
    · exact ⟨g, cap, hv⟩
  unfold Oper.wp execOp
  simp only [ho, resolve, invoke, builtin, Sem.run_bind, Sem.run_pure, Result.andThen_ok, List.map_toArray, List.map_cons, List.map_nil, hs, hx, hr]
  exact h _ _ _ h2 h3
end Go.Proofs.Ytgijekhlbkfanaa

namespace Go.Proofs.Ytgijekhlbkfanaa
open Go.RowKit
attribute [local go_sem] Later.cell Same.cell LtN.cell

def DnG (l : List Tk) (F : Nat) (E : Int) (w : World) (e : Ending) (w' : World) : Prop := ∃ v, e = .returned (.tuple #[v, .int .i64 E]) ∧ (E = 0 → ∃ g cap xs, v = .slice (some ⟨g, 0, none⟩) (l.length - 1) cap ∧ (l.length - 1 ≤ cap ∧ cap ≤ maxLen) ∧ xs.map (·.2) = dnT l F ∧ OPl w' w.heap.size g cap (l.length - 1) xs) ∧ (E ≠ 0 → v = .slice none 0 0)
def DnR (l : List Tk) (s : ByteArray) (w : World) (e : Ending) (w' : World) : Prop := DnG l (fnd l s) (dnE l s) w e w'
theorem DnG.err {l : List Tk} {F : Nat} {E : Int} {w w' : World} {e : Ending} (he : e = .returned (.tuple #[.slice none 0 0, .int .i64 E])) (h : E ≠ 0) : DnG l F E w e w' := ⟨_, he, fun h' => absurd h' h, fun _ => rfl⟩
theorem DnG.mk {l : List Tk} {F : Nat} {w w' : World} {e : Ending} {g cap : Nat} {xs : List TkR} (he : e = .returned (.tuple #[.slice (some ⟨g, 0, none⟩) (l.length - 1) cap, .int .i64 0])) (hq : l.length - 1 ≤ cap ∧ cap ≤ maxLen) (hm : xs.map (·.2) = dnT l F) (ho : OPl w' w.heap.size g cap (l.length - 1) xs) : DnG l F 0 w e w' := ⟨_, he, fun _ => ⟨g, cap, xs, rfl, hq, hm, ho⟩, fun h => absurd rfl h⟩
def RdR (l : List Tk) (F : Nat) (w : World) (v k' : Value) (W : World) : Prop := ∃ (k : Nat) (xs : List TkR), k ≤ l.length ∧ k' = .int .i64 (k : Int) ∧ xs.length ≤ k ∧ Hid (xs.map (·.2) = dnK l F k) ∧ Hid (OPv W w.heap.size v xs.length xs) ∧ Below w.heap.size w W
theorem RdR.mk {l : List Tk} {F : Nat} {w : World} {v k' : Value} {W : World} (k : Nat) (xs : List TkR) (h1 : k ≤ l.length) (h2 : k' = .int .i64 (k : Int)) (h3 : xs.length ≤ k) (h4 : Hid (xs.map (·.2) = dnK l F k)) (h5 : Hid (OPv W w.heap.size v xs.length xs)) (h6 : Below w.heap.size w W) : RdR l F w v k' W := ⟨k, xs, h1, h2, h3, h4, h5, h6⟩
def NiR (nm : ByteArray) (ss : List ByteArray) (X : ByteArray) (Y Z : Int) (Wr : World) (j' : Value) (W : World) : Prop := ∃ (j : Nat) (v : Value), j ≤ ss.length ∧ j' = .int .i64 (j : Int) ∧ Hid (CA W Wr.heap.size [.string X, .int .i64 Y, .int .i64 Z, v]) ∧ Hid (W.ownsRow (Wr.heap.size + 1) 9 1 v (afK nm ss j).length (scel (afK nm ss j))) ∧ Below Wr.heap.size Wr W
theorem NiR.mk {nm : ByteArray} {ss : List ByteArray} {X : ByteArray} {Y Z : Int} {Wr : World} {j' : Value} {W : World} (j : Nat) (v : Value) (h1 : j ≤ ss.length) (h2 : j' = .int .i64 (j : Int)) (h3 : Hid (CA W Wr.heap.size [.string X, .int .i64 Y, .int .i64 Z, v])) (h4 : Hid (W.ownsRow (Wr.heap.size + 1) 9 1 v (afK nm ss j).length (scel (afK nm ss j)))) (h5 : Below Wr.heap.size Wr W) : NiR nm ss X Y Z Wr j' W := ⟨j, v, h1, h2, h3, h4, h5⟩
theorem scel_app (a b : List ByteArray) : scel (a ++ b) = scel a ++ scel b := by simp [scel]
set_option maxRecDepth 20000 in
set_option maxHeartbeats 16000000 in
theorem rDone_any (A : Option Addr) (len cap : Nat) (l : List Tk) (s : ByteArray) (w : World) (hS : Sml l) (hs : s.size ≤ 9223372036854775807) (hx : Plan w w.heap.size A len l) :
    Calls Try.prog 43 #[.slice A len cap, .string s] w fun e w' => DnR l s w e w' ∧ Below w.heap.size w w' := by
  obtain rfl : l.length = len := hx.1
  have c1 := rnamed_any A l.length cap l s w hS hs hx
  have hD : DnR l s = fun w e w' => DnG l (fnd l s) (dnE l s) w e w' := rfl
  rw [hD]
  clear hD
  by_cases h0 : nmE l s = 0
  · have hn : nmV l s = (fnd l s : Int) := by unfold nmV; rw [if_pos h0]
    have hc : checkE l = 0 ∧ fnd l s < l.length := by
      rcases nm_cases l s with ⟨a, b, -⟩ | ⟨-, -, a, -⟩ | ⟨a, b, -⟩
      · exact ⟨a, b⟩
      · rw [h0] at a; cases a
      · rw [h0] at b; exact absurd b.symm a
    have hP := check_spec hc.1
    have hF := hc.2
    have hE : dnE l s = if 0 < (tkA l (fnd l s)).af.length then 10 else if l.length = 1 then 8 else 0 := by unfold dnE; rw [if_pos h0]
    have hnm : (tkA l (fnd l s)).nm = s := fnd_at hF
    rw [hn, h0] at c1
    rw [hE]
    have hL := hP.len
    obtain ⟨i0, hi, hz0, hz1, hz2⟩ := info_parts info_task
    have hI0 := Lib.hid hi
    have hI1 := Lib.hid hz0
    have hI2 := Lib.hid hz1
    have hI3 := Lib.hid hz2
    obtain ⟨k0, hk, ky0, ky1, ky2⟩ := info_parts info_str
    have hJ0 := Lib.hid hk
    have hJ1 := Lib.hid ky0
    have hJ2 := Lib.hid ky1
    have hJ3 := Lib.hid ky2
    obtain ⟨b, off, rfl, hb0, -, -, -, A', n, cc, hc4, hn1, hn2, hSt⟩ := hx.at_ (fnd l s) hF
    have hnl : (tkA l (fnd l s)).af.length = n := hSt.1
    have HX := Lib.hid hx
    have HP := Lib.hid hP
    have HS := Lib.hid hS
    rw [hnl]
    generalize fnd l s = F at *
    have HNM := Lib.hid hnm
    have HC4 := Lib.hid hc4
    have C1 := Lib.hid c1
    have hF1 : (F : Int) < l.length := by omega
    have hF2 : ¬ l.length ≤ F := by omega
    clear c1 hx h0 hn hc hP hE hS hs hnm hSt hnl hi hz0 hz1 hz2 hk ky0 ky1 ky2 hc4
    by_cases hn0 : 0 < n
    · rw [if_pos hn0]
      have hn3 : (0 : Int) < n := by omega
      go_enter Try.func43, Try.ntmps43
      go_wp2_with fail
      refine C1.out.mono ?_
      rintro e w1 ⟨rfl, hb⟩
      have hc4 : w1.cell? ⟨b, off + F * 4 + 3, none⟩ = some (.slice A' n cc) := (hb.cell (p := ⟨b, _, none⟩) hb0).trans HC4.out
      have HB1 := Lib.hid hb
      clear hb
      go_wp2
      go_ret2
      exact ⟨DnG.err rfl (by decide), HB1.out⟩
    · rw [if_neg hn0]
      have hn3 : ¬ (0 : Int) < n := by omega
      by_cases h1 : l.length = 1
      · rw [if_pos h1]
        have h11 : ((l.length : Int) == 1) = true := by rw [h1]; rfl
        have H1 := Lib.hid h1
        clear h1
        go_enter Try.func43, Try.ntmps43
        go_wp2_with fail
        refine C1.out.mono ?_
        rintro e w1 ⟨rfl, hb⟩
        have hc4 : w1.cell? ⟨b, off + F * 4 + 3, none⟩ = some (.slice A' n cc) := (hb.cell (p := ⟨b, _, none⟩) hb0).trans HC4.out
        have HB1 := Lib.hid hb
        clear hb
        go_wp2
        go_ret2
        exact ⟨DnG.err rfl (by decide), HB1.out⟩
      · rw [if_neg h1]
        have h11 : ((l.length : Int) == 1) = false := by rw [beq_eq_false_iff_ne]; omega
        go_enter Try.func43, Try.ntmps43
        go_wp2_with fail
        refine C1.out.mono ?_
        rintro e w1 ⟨rfl, hb⟩
        have hc4 : w1.cell? ⟨b, off + F * 4 + 3, none⟩ = some (.slice A' n cc) := (hb.cell (p := ⟨b, _, none⟩) hb0).trans HC4.out
        have HB1 := Lib.hid hb
        have hs1 := hb.size
        clear hb
        go_wp2
        go_loopw [8, 9] (fun v i W => RdR l F w1 v i W) (fun _ i _ => l.length - (intOf i).toNat)
        case atStart => exact RdR.mk 0 [] (Nat.zero_le _) rfl (Nat.le_refl _) (Lib.hid (by rw [dnK_zero]; rfl)) (Lib.hid (OPv.nil _ _)) (Below.refl _ _)
        case round =>
          clear hc4
          obtain ⟨k, xs, hk, rfl, hxl, hmx, HO, hB⟩ := hrel
          have hbs := hB.size
          by_cases hlt : k < l.length
          · have hk1 : (k : Int) < l.length := by omega
            have hk2 : ¬ l.length ≤ k := by omega
            have hnx := dnK_next (F := F) hlt
            by_cases hkF : k = F
            · have hke : ((k : Int) == (F : Int)) = true := by rw [hkF]; simp
              rw [if_pos hkF] at hnx
              have HNX := Lib.hid hnx
              have HKF := Lib.hid hkF
              clear hnx hkF
              go_wp2
              go_roundw
              case rel => exact RdR.mk (k + 1) xs (by omega) (by go_num) (by omega) (Lib.hid (by rw [HNX.out]; exact hmx.out)) HO hB
              case measure => simp [intOf]; omega
            · have hke : ((k : Int) == (F : Int)) = false := by rw [beq_eq_false_iff_ne]; omega
              rw [if_neg hkF] at hnx
              have HKF := Lib.hid hkF
              obtain ⟨b9, off9, e9, hb9, hc1, hc2, hc3, A2, n2, cc2, hc5, hm1, hm2, hSt⟩ := (HX.out.below (HB1.out.trans (hB.mono hs1))).at_ k hlt
              injection e9 with e9
              injection e9 with q1 q2
              subst q1 q2
              have hfew := HP.out.few k hlt
              obtain rfl : (tkA l k).af.length = n2 := hSt.1
              rw [HNM.out, afK_all] at hnx
              have hmx2 : ∀ a : Option Addr × Nat × Nat, (xs ++ [((a, { nm := (tkA l k).nm, dy := (tkA l k).dy, mn := (tkA l k).mn, af := afK s (tkA l k).af (tkA l k).af.length }) : TkR)]).map (·.2) = dnK l F (k + 1) := fun a => by
                rw [hnx, List.map_append, hmx.out]; rfl
              have HMX := Lib.hid hmx2
              generalize (tkA l k).nm = X at *
              generalize (tkA l k).dy = Y at *
              generalize (tkA l k).mn = Z at *
              generalize (tkA l k).af = ss at *
              have hbr : b < wr.heap.size := by omega
              have HSt := Lib.hid ((hSt.more (Nat.le_trans hs1 hbs)))
              have HC5 := Lib.hid hc5
              have HB := Lib.hid hB
              clear hnx hmx hmx2 hSt hkF hB hc5
              obtain ⟨Wr, hWr⟩ : ∃ Wr, Wr = wr := ⟨_, rfl⟩
              subst hWr
              have HCA2 : Hid (CA (Wr.alloc (.cells #[.string X, .int .i64 Y, .int .i64 Z, .slice none 0 0] 43)) Wr.heap.size [.string X, .int .i64 Y, .int .i64 Z, .slice none 0 0]) := Lib.hid (CA.new Wr _ _)
              have HB2 := Lib.hid ((Below.refl Wr.heap.size Wr).alloc (Nat.le_refl _) (.cells #[.string X, .int .i64 Y, .int .i64 Z, .slice none 0 0] 43))
              have hc5 := HC5.out
              go_wp2
              clear hc5
              go_loopw [11] (fun j' W => NiR s ss X Y Z Wr j' W) (fun j' _ => ss.length - (intOf j').toNat)
              case atStart => exact NiR.mk 0 (.slice none 0 0) (Nat.zero_le _) rfl HCA2 (Lib.hid (by rw [afK_zero]; exact World.ownsRow_nil _ _ _ _)) HB2.out
              case round =>
                obtain ⟨j, v, hj, rfl, HCA, HV, hb⟩ := hrel
                have hws := hb.size
                have hc5 := (hb.cell (p := ⟨b, _, none⟩) hbr).trans HC5.out
                obtain ⟨A3, cap3, rfl, hv1, hv2, hS3, hn3⟩ := own_strs HV.out
                have hkl2 := afK_len s ss j
                by_cases hlj : j < ss.length
                · obtain ⟨b5, off5, rfl, hb5, he5⟩ := (HSt.out.below (hb.mono (Nat.le_refl _))).atS j hlj
                  have hnj := afK_next (nm := s) hlj
                  have hge : ss[j]?.getD ByteArray.empty = ss[j] := by rw [List.getElem?_eq_getElem hlj]; rfl
                  rw [hge] at he5
                  generalize ss[j] = V at *
                  have hj1 : (j : Int) < ss.length := by omega
                  have hj2 : ¬ ss.length ≤ j := by omega
                  by_cases hVs : V = s
                  · have he : (V.toList == s.toList) = true := by rw [beqS]; exact decide_eq_true hVs
                    rw [if_pos hVs] at hnj
                    have HNJ := Lib.hid hnj
                    have HVS := Lib.hid hVs
                    clear hnj hVs hS3
                    go_wp2
                    go_roundw
                    case rel => exact NiR.mk (j + 1) _ (by omega) (by go_num) HCA (Lib.hid (by rw [HNJ.out]; exact HV.out)) hb
                    case measure => simp [intOf]; omega
                  · have he : (V.toList == s.toList) = false := by rw [beqS]; exact decide_eq_false hVs
                    rw [if_neg hVs] at hnj
                    have HNJ := Lib.hid hnj
                    have HVS := Lib.hid hVs
                    obtain ⟨z3, f3⟩ := HCA.out.2 3 _ rfl
                    have HB := Lib.hid hb
                    have htl := HCA.out.1
                    have hbw : b < wr.heap.size := by omega
                    have hb5w : b5 < wr.heap.size := by omega
                    clear hnj hVs hS3 hb
                    go_wp2_with fail
                    have hsN0 : Wr.heap.size ≤ wr.heap.size := hws
                    refine wp_region_ltn Wr.heap.size (by kernel_rfl) (by kernel_rfl) ?_
                    refine wpC_take (f := 5) (by kernel_rfl) (by kernel_rfl) ⟨⟨_, (Below.refl _ _).drew⟩, rfl⟩ [0, 2, 3, 4, 5, 6, 7, 8, 9] _ _ (by kernel_rfl) ?_
                    simp only [List.map_cons, List.map_nil, List.getElem?_toArray, List.getElem?_cons_succ, List.getElem?_cons_zero, Option.getD_some]
                    repeat (go_big_quiet_step (fail))
                    refine wpQuiet_nil ?_
                    have hbd0 : Below wr.heap.size wr wr.drew := (Below.refl _ _).drew
                    have hbd : Below Wr.heap.size wr wr.drew := (Below.refl _ _).drew
                    have HCAd := Lib.hid (HCA.out.later hbd0)
                    have HVd := Lib.hid (jown_later HV.out hbd0)
                    have hsd : Wr.heap.size + 1 ≤ wr.drew.heap.size := by simp; omega
                    have hsN : Wr.heap.size ≤ wr.drew.heap.size := by omega
                    have hk10 : (afK s ss j).length ≤ 10 := by have h9 : ss.length ≤ 10 := hfew; omega
                    generalize wr.drew = W5 at *
                    clear hbd0 z3 f3 he5 hc5
                    refine wpC_all (rs := [1, 10]) (by kernel_rfl) (by decide) ?_
                    intro q hq
                    simp only [List.mem_cons, List.not_mem_nil, or_false] at hq
                    rcases hq with rfl | rfl
                    · refine ⟨_, rfl, ?_⟩
                      obtain ⟨z3, f3⟩ := HCAd.out.2 3 _ rfl
                      go_simp
                      clear z3 f3
                      refine ⟨⟨⟨_, hbd⟩, rfl⟩, ?_⟩
                      refine wpC_all (rs := [10]) (by kernel_rfl) (by decide) ?_
                      intro q hq
                      simp only [List.mem_cons, List.not_mem_nil, or_false] at hq
                      subst hq
                      refine ⟨_, rfl, ?_⟩
                      go_simp
                      have hbd6 : Below Wr.heap.size wr (W5.alloc (.cells #[.string V] 9)) := hbd.alloc hsN _
                      have HCA6 := Lib.hid (HCAd.out.alloc (.cells #[.string V] 9))
                      have HV6 := Lib.hid (HVd.out.alloc (.cells #[.string V] 9))
                      refine ⟨⟨⟨_, hbd6⟩, rfl⟩, ?_⟩
                      refine wpC_all (rs := [11]) (by kernel_rfl) (by decide) ?_
                      intro q hq
                      simp only [List.mem_cons, List.not_mem_nil, or_false] at hq
                      subst hq
                      refine ⟨_, rfl, ?_⟩
                      refine wp_append_own1 (.tmp 66) (.tmp 75) 41 rfl (Wr.heap.size + 1) 9 k0 (.string ByteArray.empty) 1 16 Try.underlying41 hJ0.out hJ1.out hJ2.out hJ3.out rfl (by decide) (.slice A3 (afK s ss j).length cap3) (afK s ss j).length (scel (afK s ss j)) (by simp [Act.eval, Act.put]) HV6.out ⟨W5.heap.size, 0, none⟩ 1 1 (by omega) [.string V] (by simp [Act.eval, Act.put]) rfl (jnews1 _ _ _) (by intro u hu; simp at hu; subst hu; rfl) (by unfold maxLen; omega) (by omega) (by simp; omega) ?_
                      intro g8 cap8 w8 hown8 hgrow8
                      have hb8 : Below (Wr.heap.size + 1) W5 w8 := ((Below.refl _ _).alloc hsd _).trans (grown_below hgrow8 (by simp; omega) (fun q hq => (HV6.out.lt q hq).1))
                      have hbw8 : Below Wr.heap.size wr w8 := hbd.trans (hb8.mono (Nat.le_succ _))
                      have hca8 := HCAd.out.below hb8 (Nat.lt_succ_self _)
                      refine ⟨⟨⟨_, hbw8⟩, rfl⟩, ?_⟩
                      go_simp
                      refine wpC_all (rs := [12]) (by kernel_rfl) (by decide) ?_
                      intro q hq
                      simp only [List.mem_cons, List.not_mem_nil, or_false] at hq
                      subst hq
                      refine ⟨_, rfl, ?_⟩
                      go_simp
                      refine ⟨⟨⟨_, hbw8⟩, rfl⟩, ?_⟩
                      refine wpC_all (rs := [13]) (by kernel_rfl) (by decide) ?_
                      intro q hq
                      simp only [List.mem_cons, List.not_mem_nil, or_false] at hq
                      subst hq
                      refine ⟨_, rfl, ?_⟩
                      obtain ⟨z3, f3⟩ := hca8.2 3 _ rfl
                      go_simp
                      clear z3 f3
                      have HCA9 := Lib.hid (hca8.set (k := 3) (by simp) (.slice (some ⟨g8, 0, none⟩) ((afK s ss j).length + 1) cap8))
                      have hbw9 := hbw8.setCell (p := ⟨Wr.heap.size, 3, none⟩) (Nat.le_refl _) (.slice (some ⟨g8, 0, none⟩) ((afK s ss j).length + 1) cap8)
                      have HB9 := Lib.hid (HB.out.trans hbw9)
                      have HV9 : Hid ((w8.setCell ⟨Wr.heap.size, 3, none⟩ (.slice (some ⟨g8, 0, none⟩) ((afK s ss j).length + 1) cap8)).ownsRow (Wr.heap.size + 1) 9 1 (.slice (some ⟨g8, 0, none⟩) ((afK s ss j).length + 1) cap8) (afK s ss (j + 1)).length (scel (afK s ss (j + 1)))) := Lib.hid (by
                        rw [HNJ.out, List.length_append, scel_app]
                        refine jown_block hown8 fun g hg => ?_
                        have := (hown8.lt g hg).1
                        exact Below.heap_setCell _ ⟨Wr.heap.size, 3, none⟩ _ g (by show g ≠ Wr.heap.size; omega))
                      refine ⟨⟨⟨_, hbw9⟩, rfl⟩, ?_⟩
                      clear hb8 hbw8 hca8 hown8 hgrow8 hbw9
                      refine wpC_done (by kernel_rfl) ?_
                      go_wp2_with fail
                      go_roundw
                      case rel => exact NiR.mk (j + 1) _ (by omega) (by go_num) HCA9 HV9 HB9.out
                      case measure => simp [intOf]; omega
                    · refine ⟨_, rfl, ?_⟩
                      go_simp
                      have hbd6 : Below Wr.heap.size wr (W5.alloc (.cells #[.string V] 9)) := hbd.alloc hsN _
                      have HCA6 := Lib.hid (HCAd.out.alloc (.cells #[.string V] 9))
                      have HV6 := Lib.hid (HVd.out.alloc (.cells #[.string V] 9))
                      refine ⟨⟨⟨_, hbd6⟩, rfl⟩, ?_⟩
                      refine wpC_all (rs := [1]) (by kernel_rfl) (by decide) ?_
                      intro q hq
                      simp only [List.mem_cons, List.not_mem_nil, or_false] at hq
                      subst hq
                      refine ⟨_, rfl, ?_⟩
                      obtain ⟨z3, f3⟩ := HCA6.out.2 3 _ rfl
                      go_simp
                      clear z3 f3
                      refine ⟨⟨⟨_, hbd6⟩, rfl⟩, ?_⟩
                      refine wpC_all (rs := [11]) (by kernel_rfl) (by decide) ?_
                      intro q hq
                      simp only [List.mem_cons, List.not_mem_nil, or_false] at hq
                      subst hq
                      refine ⟨_, rfl, ?_⟩
                      refine wp_append_own1 (.tmp 66) (.tmp 75) 41 rfl (Wr.heap.size + 1) 9 k0 (.string ByteArray.empty) 1 16 Try.underlying41 hJ0.out hJ1.out hJ2.out hJ3.out rfl (by decide) (.slice A3 (afK s ss j).length cap3) (afK s ss j).length (scel (afK s ss j)) (by simp [Act.eval, Act.put]) HV6.out ⟨W5.heap.size, 0, none⟩ 1 1 (by omega) [.string V] (by simp [Act.eval, Act.put]) rfl (jnews1 _ _ _) (by intro u hu; simp at hu; subst hu; rfl) (by unfold maxLen; omega) (by omega) (by simp; omega) ?_
                      intro g8 cap8 w8 hown8 hgrow8
                      have hb8 : Below (Wr.heap.size + 1) W5 w8 := ((Below.refl _ _).alloc hsd _).trans (grown_below hgrow8 (by simp; omega) (fun q hq => (HV6.out.lt q hq).1))
                      have hbw8 : Below Wr.heap.size wr w8 := hbd.trans (hb8.mono (Nat.le_succ _))
                      have hca8 := HCAd.out.below hb8 (Nat.lt_succ_self _)
                      refine ⟨⟨⟨_, hbw8⟩, rfl⟩, ?_⟩
                      go_simp
                      refine wpC_all (rs := [12]) (by kernel_rfl) (by decide) ?_
                      intro q hq
                      simp only [List.mem_cons, List.not_mem_nil, or_false] at hq
                      subst hq
                      refine ⟨_, rfl, ?_⟩
                      go_simp
                      refine ⟨⟨⟨_, hbw8⟩, rfl⟩, ?_⟩
                      refine wpC_all (rs := [13]) (by kernel_rfl) (by decide) ?_
                      intro q hq
                      simp only [List.mem_cons, List.not_mem_nil, or_false] at hq
                      subst hq
                      refine ⟨_, rfl, ?_⟩
                      obtain ⟨z3, f3⟩ := hca8.2 3 _ rfl
                      go_simp
                      clear z3 f3
                      have HCA9 := Lib.hid (hca8.set (k := 3) (by simp) (.slice (some ⟨g8, 0, none⟩) ((afK s ss j).length + 1) cap8))
                      have hbw9 := hbw8.setCell (p := ⟨Wr.heap.size, 3, none⟩) (Nat.le_refl _) (.slice (some ⟨g8, 0, none⟩) ((afK s ss j).length + 1) cap8)
                      have HB9 := Lib.hid (HB.out.trans hbw9)
                      have HV9 : Hid ((w8.setCell ⟨Wr.heap.size, 3, none⟩ (.slice (some ⟨g8, 0, none⟩) ((afK s ss j).length + 1) cap8)).ownsRow (Wr.heap.size + 1) 9 1 (.slice (some ⟨g8, 0, none⟩) ((afK s ss j).length + 1) cap8) (afK s ss (j + 1)).length (scel (afK s ss (j + 1)))) := Lib.hid (by
                        rw [HNJ.out, List.length_append, scel_app]
                        refine jown_block hown8 fun g hg => ?_
                        have := (hown8.lt g hg).1
                        exact Below.heap_setCell _ ⟨Wr.heap.size, 3, none⟩ _ g (by show g ≠ Wr.heap.size; omega))
                      refine ⟨⟨⟨_, hbw9⟩, rfl⟩, ?_⟩
                      clear hb8 hbw8 hca8 hown8 hgrow8 hbw9
                      refine wpC_done (by kernel_rfl) ?_
                      go_wp2_with fail
                      go_roundw
                      case rel => exact NiR.mk (j + 1) _ (by omega) (by go_num) HCA9 HV9 HB9.out
                      case measure => simp [intOf]; omega
                · have hjl : j = ss.length := by omega
                  subst hjl
                  have hj1 : ¬ (ss.length : Int) < ss.length := by omega
                  obtain ⟨z0, f0⟩ := HCA.out.2 0 _ rfl
                  obtain ⟨z1, f1⟩ := HCA.out.2 1 _ rfl
                  obtain ⟨z2, f2⟩ := HCA.out.2 2 _ rfl
                  obtain ⟨z3, f3⟩ := HCA.out.2 3 _ rfl
                  have hOw := HO.out.later hb
                  have HO5 := Lib.hid (hOw.later ((Below.refl _ _).alloc (Nat.le_refl _) (.cells #[.string X, .int .i64 Y, .int .i64 Z, .slice A3 (afK s ss ss.length).length cap3] 43)))
                  have HY5 : Hid (okR _ _ (((A3, (afK s ss ss.length).length, cap3), { nm := X, dy := Y, mn := Z, af := afK s ss ss.length }) : TkR)) := Lib.hid (okR.go ⟨⟨hv1, by unfold maxLen at hv2; exact hv2⟩, hS3⟩ ((Below.refl _ _).alloc (Nat.le_refl _) (.cells #[.string X, .int .i64 Y, .int .i64 Z, .slice A3 (afK s ss ss.length).length cap3] 43)))
                  have hx20 : xs.length < 20 := by omega
                  have HBw := Lib.hid (HB.out.trans (hb.mono hbs))
                  have HLT := Lib.hid (fun q hq => (HO.out.own.lt q hq).2)
                  have HN3 := Lib.hid hn3
                  have hsw : w1.heap.size ≤ wr.heap.size := Nat.le_trans hbs hws
                  clear hb hS3 hn3 hOw f0 f1 f2 f3
                  go_wp2_with (at_builtin; go_loud (refine wpList_append_own_at _ rfl (.tmp 78) (.tmp 80) 31 rfl w1.heap.size 43 i0 (.agg #[.string ByteArray.empty, .int .i64 0, .int .i64 0, .slice none 0 0]) 4 56 Try.underlying31 hI0.out hI1.out hI2.out hI3.out rfl (by decide) _ xs.length (tcel xs) rfl HO5.out.own ⟨wr.heap.size, 0, none⟩ 1 1 (tk4 (((A3, (afK s ss ss.length).length, cap3), { nm := X, dy := Y, mn := Z, af := afK s ss ss.length }) : TkR)) rfl rfl (rnews4 wr (((A3, (afK s ss ss.length).length, cap3), { nm := X, dy := Y, mn := Z, af := afK s ss ss.length }) : TkR) 43) (by intro u hu; exact tcel_one [(((A3, (afK s ss ss.length).length, cap3), { nm := X, dy := Y, mn := Z, af := afK s ss ss.length }) : TkR)] u (by simpa [tcel] using hu)) (by unfold maxLen; omega) (by omega) (by simp; omega) ?_))
                  intro v8 w8 hown8 hgrow8 _ hat8
                  have hb8 : Below w1.heap.size w1 w8 := (HBw.out.alloc hsw _).trans (grown_below hgrow8 (by simp; omega) (fun q hq => (HO5.out.own.lt q hq).1))
                  have HO8 := Lib.hid (HO5.out.push HY5.out (fun _ b off e hh => by
                    have h1 := HN3.out b off e
                    have h2 := HLT.out b hh.symm
                    omega) hown8 hgrow8 (by rw [World.size_alloc]; exact hat8))
                  have HM8 := Lib.hid (HMX.out (A3, (afK s ss ss.length).length, cap3))
                  have hl8 : (xs ++ [(((A3, (afK s ss ss.length).length, cap3), { nm := X, dy := Y, mn := Z, af := afK s ss ss.length }) : TkR)]).length = xs.length + 1 := by simp
                  clear hown8 hgrow8 hat8
                  go_wp2
                  go_roundw
                  case rel => exact RdR.mk (k + 1) (xs ++ [(((A3, (afK s ss ss.length).length, cap3), { nm := X, dy := Y, mn := Z, af := afK s ss ss.length }) : TkR)]) (by omega) (by go_num) (by rw [hl8]; omega) HM8 (Lib.hid (by rw [hl8]; exact HO8.out)) hb8
                  case measure => simp [intOf]; omega
          · have hkl : k = l.length := by omega
            subst hkl
            have hk1 : ¬ (l.length : Int) < l.length := by omega
            have hm9 := hmx.out
            rw [dnK_all] at hm9
            have hxl2 : xs.length = l.length - 1 := by
              have := congrArg List.length hm9
              rw [List.length_map, dnT_len (by omega)] at this
              exact this
            have hO9 := HO.out
            rw [hxl2] at hO9
            obtain ⟨g, cap', rfl, hq, hO⟩ := hO9.to (by have := HP.out.pos; omega)
            have HO' := Lib.hid hO
            have HBF := Lib.hid (HB1.out.trans (hB.mono hs1))
            have HQ := Lib.hid hq
            have HMX := Lib.hid hm9
            clear hO hB hq hmx HO hm9 hO9
            go_wp2
            go_ret2
            exact ⟨DnG.mk rfl HQ.out HMX.out ⟨jown_mono HO'.out.own hs1, HO'.out.ok, HO'.out.nb⟩, HBF.out⟩
  · have hne : (nmE l s == 0) = false := by simpa using h0
    have hE : dnE l s = nmE l s := by unfold dnE; rw [if_neg h0]
    rw [hE]
    have hE0 := Lib.hid h0
    generalize nmE l s = E at *
    have C1 := Lib.hid c1
    clear c1 hx h0 hE
    go_enter Try.func43, Try.ntmps43
    go_wp2_with fail
    refine C1.out.mono ?_
    rintro e w1 ⟨rfl, hb⟩
    have hb2 := Lib.hid hb
    clear hb
    go_wp2
    go_ret2
    exact ⟨DnG.err rfl hE0.out, hb2.out⟩
end Go.Proofs.Ytgijekhlbkfanaa

namespace Go.Proofs.Ytgijekhlbkfanaa
open Go.RowKit
attribute [local go_sem] Later.cell Same.cell

theorem OPk.turn {W W' : World} {base g n k i : Nat} {ys : List TkR} {y : TkR} {v : Value} (h : OPk W base g n ys) (hk : k < n) (hkl : k < ys.length) (hg : W.grownBy W' (obA (xA ys k))) (hy : ownA W' base y) (hob : obA y = obA (xA ys k)) : OPk (W'.setCell ⟨g, i, none⟩ v) base g n (ys.set k y) := by
  have hst : ∀ x, ownA W' base x → obA x ≠ some g → ownA (W'.setCell ⟨g, i, none⟩ v) base x := fun x h1 h2 => jown_block h1 fun z hz => Below.heap_setCell _ ⟨g, i, none⟩ v z (by show z ≠ g; intro e; exact h2 (by rw [← e]; exact hz))
  have hot : ∀ q, q ≠ k → q < n → q < ys.length → ownA W' base (xA ys q) := fun q hq h1 h2 => by
    by_cases hn : obA (xA ys q) = none
    · exact (h.own q h1 h2).kept hg (.inl hn)
    · exact (h.own q h1 h2).kept hg (.inr (h.dis q k h1 hk h2 hkl hq hn))
  refine ⟨fun q h1 h2 => ?_, fun q h1 h2 => ?_, fun q r h1 h2 h3 h4 hne hn => ?_⟩
  · rw [List.length_set] at h2
    rw [xA_set hkl]
    by_cases e : q = k
    · rw [if_pos e]; exact hst _ hy (by rw [hob]; exact h.ne k hk hkl)
    · rw [if_neg e]; exact hst _ (hot q e h1 h2) (h.ne q h1 h2)
  · rw [List.length_set] at h2
    rw [xA_set hkl]
    by_cases e : q = k
    · rw [if_pos e, hob]; exact h.ne k hk hkl
    · rw [if_neg e]; exact h.ne q h1 h2
  · rw [List.length_set] at h3 h4
    rw [xA_set hkl] at hn ⊢
    rw [xA_set hkl]
    by_cases e : q = k
    · rw [if_pos e] at hn ⊢
      rw [if_neg (by omega), hob]
      rw [hob] at hn
      exact h.dis k r hk h2 hkl h4 (by omega) hn
    · rw [if_neg e] at hn ⊢
      by_cases e2 : r = k
      · rw [if_pos e2, hob]; exact h.dis q k h1 hk h3 hkl e hn
      · rw [if_neg e2]; exact h.dis q r h1 h2 h3 h4 hne hn
theorem OPl.of_own {W : World} {base g cap n : Nat} {ys : List TkR} (ho : W.ownsRow base 43 4 (.slice (some ⟨g, 0, none⟩) n cap) n (tcel ys)) (hk : OPk W base g n ys) : OPl W base g cap n ys := by
  have hl : ys.length = n := by have := ho.1; rw [tcel_len] at this; omega
  have hx : ∀ x ∈ ys, ∃ q, q < n ∧ xA ys q = x := fun x hx => by
    obtain ⟨q, hq, rfl⟩ := List.getElem_of_mem hx
    exact ⟨q, by omega, by unfold xA; rw [List.getElem?_eq_getElem hq]; rfl⟩
  refine ⟨ho, fun x hm => ?_, fun x hm h0 b off e hb => ?_⟩
  · obtain ⟨q, hq, rfl⟩ := hx x hm
    obtain ⟨A, c, hv, h1, h2, h3, -⟩ := own_strs (hk.own q hq (by omega))
    injection hv with e1 e2 e3
    refine ⟨⟨by rw [e3]; exact h1, by rw [e3]; unfold maxLen at h2; exact h2⟩, ?_⟩
    rw [e1]; exact h3
  · obtain ⟨q, hq, rfl⟩ := hx x hm
    refine hk.ne q hq (by omega) ?_
    unfold obA
    rw [e, hb]
    rfl
theorem OPk.erase {W W' : World} {base g n F : Nat} {xs : List TkR} (h : OPk W base g n xs) (hl : xs.length = n) (hF : F < n) (hg : W.grownBy W' (some g)) : OPk W' base g (n - 1) (xs.eraseIdx F) := by
  have hx : ∀ q, xA (xs.eraseIdx F) q = xA xs (sg F q) := fun q => by
    unfold xA sg
    rw [List.getElem?_eraseIdx]
    split <;> rfl
  have hs : ∀ q, q < n - 1 → sg F q < n := fun q hq => by unfold sg; split <;> omega
  have hi : ∀ q r, q ≠ r → sg F q ≠ sg F r := fun q r hqr => by unfold sg; split <;> split <;> omega
  refine ⟨fun q h1 h2 => ?_, fun q h1 h2 => ?_, fun q r h1 h2 h3 h4 hne hn => ?_⟩
  · rw [hx]
    have h5 := hs q h1
    by_cases hn : obA (xA xs (sg F q)) = none
    · exact (h.own _ h5 (by omega)).kept hg (.inl hn)
    · exact (h.own _ h5 (by omega)).kept hg (.inr (h.ne _ h5 (by omega)))
  · rw [hx]; exact h.ne _ (hs q h1) (by have := hs q h1; omega)
  · rw [hx] at hn ⊢
    rw [hx]
    exact h.dis _ _ (hs q h1) (hs r h2) (by have := hs q h1; omega) (by have := hs r h2; omega) (hi q r hne) hn
end Go.Proofs.Ytgijekhlbkfanaa

namespace Go.Proofs.Ytgijekhlbkfanaa
open Go.RowKit
attribute [local go_sem] Later.cell Same.cell

theorem mid_set {α : Type} (f : α → α) (L : List α) (k : Nat) (hk : k < L.length) : ((L.take k).map f ++ L.drop k).set k (f L[k]) = (L.take (k + 1)).map f ++ L.drop (k + 1) ∧ ((L.take k).map f ++ L.drop k)[k]? = some L[k] := by
  have h1 : L.drop k = L[k] :: L.drop (k + 1) := List.drop_eq_getElem_cons hk
  have h2 : ((L.take k).map f).length = k := by rw [List.length_map, List.length_take]; omega
  constructor
  · rw [h1, List.set_append_right _ _ (by rw [h2]; exact Nat.le_refl _), h2, Nat.sub_self, List.set_cons_zero, List.take_succ_eq_append_getElem hk, List.map_append]
    simp
  · rw [List.getElem?_append_right (by rw [h2]; exact Nat.le_refl _), h2, Nat.sub_self, h1]
    rfl
def DnL (l : List Tk) (s : ByteArray) (F : Nat) (w : World) (base g cap : Nat) (k' : Value) (W : World) : Prop := ∃ (k : Nat) (ys : List TkR), k ≤ l.length - 1 ∧ k' = .int .i64 (k : Int) ∧ Hid (ys.map (·.2) = ((l.eraseIdx F).take k).map (noS s) ++ (l.eraseIdx F).drop k) ∧ Hid (W.ownsRow base 43 4 (.slice (some ⟨g, 0, none⟩) (l.length - 1) cap) (l.length - 1) (tcel ys)) ∧ Hid (OPk W base g (l.length - 1) ys) ∧ Hid (W.cell? ⟨w.heap.size, 0, none⟩ = some (.string s)) ∧ Below w.heap.size w W
theorem DnL.mk {l : List Tk} {s : ByteArray} {F : Nat} {w : World} {base g cap : Nat} {k' : Value} {W : World} (k : Nat) (ys : List TkR) (h1 : k ≤ l.length - 1) (h2 : k' = .int .i64 (k : Int)) (h3 : Hid (ys.map (·.2) = ((l.eraseIdx F).take k).map (noS s) ++ (l.eraseIdx F).drop k)) (h4 : Hid (W.ownsRow base 43 4 (.slice (some ⟨g, 0, none⟩) (l.length - 1) cap) (l.length - 1) (tcel ys))) (h5 : Hid (OPk W base g (l.length - 1) ys)) (h6 : Hid (W.cell? ⟨w.heap.size, 0, none⟩ = some (.string s))) (h7 : Below w.heap.size w W) : DnL l s F w base g cap k' W := ⟨k, ys, h1, h2, h3, h4, h5, h6, h7⟩
set_option maxRecDepth 20000 in
set_option maxHeartbeats 16000000 in
theorem Done_any (A : Option Addr) (len cap : Nat) (l : List Tk) (s : ByteArray) (w : World) (hS : Sml l) (hs : s.size ≤ 9223372036854775807) (hx : Plan w w.heap.size A len l) :
    Calls Try.prog 42 #[.slice A len cap, .string s] w fun e w' => DnR l s w e w' ∧ Below w.heap.size w w' := by
  obtain rfl : l.length = len := hx.1
  have c1 := fun W (h : Below w.heap.size w W) => named_any A l.length cap l s W hS hs (hx.go h)
  have HB0 := Lib.hid (((Below.refl w.heap.size w).alloc (Nat.le_refl _) (.cells #[.string s] 9)))
  have hD : DnR l s = fun w e w' => DnG l (fnd l s) (dnE l s) w e w' := rfl
  rw [hD]
  clear hD
  by_cases h0 : nmE l s = 0
  · have hn : nmV l s = (fnd l s : Int) := by unfold nmV; rw [if_pos h0]
    have hc : checkE l = 0 ∧ fnd l s < l.length := by
      rcases nm_cases l s with ⟨a, b, -⟩ | ⟨-, -, a, -⟩ | ⟨a, b, -⟩
      · exact ⟨a, b⟩
      · rw [h0] at a; cases a
      · rw [h0] at b; exact absurd b.symm a
    have hP := check_spec hc.1
    have hF := hc.2
    have hE : dnE l s = if 0 < (tkA l (fnd l s)).af.length then 10 else if l.length = 1 then 8 else 0 := by unfold dnE; rw [if_pos h0]
    have hnm : (tkA l (fnd l s)).nm = s := fnd_at hF
    have c3 := fun W (h : Below w.heap.size w W) => copied2_any A l.length cap l W hP (hx.go h)
    have C3 := Lib.hid c3
    clear c3
    simp only [hn, h0] at c1
    rw [hE]
    have hL := hP.len
    obtain ⟨i0, hi, hz0, hz1, hz2⟩ := info_parts info_task
    have hI0 := Lib.hid hi
    have hI1 := Lib.hid hz0
    have hI2 := Lib.hid hz1
    have hI3 := Lib.hid hz2
    obtain ⟨k0, hk, ky0, ky1, ky2⟩ := info_parts info_str
    have hJ0 := Lib.hid hk
    have hJ1 := Lib.hid ky0
    have hJ2 := Lib.hid ky1
    have hJ3 := Lib.hid ky2
    obtain ⟨b, off, rfl, hb0, -, -, -, A', n, cc, hc4, hn1, hn2, hSt⟩ := hx.at_ (fnd l s) hF
    have hnl : (tkA l (fnd l s)).af.length = n := hSt.1
    have HX := Lib.hid hx
    have HP := Lib.hid hP
    have HS := Lib.hid hS
    rw [hnl]
    generalize fnd l s = F at *
    have HNM := Lib.hid hnm
    have HC4 := Lib.hid hc4
    have C1 := Lib.hid c1
    have hF1 : (F : Int) < l.length := by omega
    have hF2 : ¬ l.length ≤ F := by omega
    clear c1 hx h0 hn hc hP hE hS hs hnm hSt hnl hi hz0 hz1 hz2 hk ky0 ky1 ky2 hc4
    by_cases hn0 : 0 < n
    · rw [if_pos hn0]
      have hn3 : (0 : Int) < n := by omega
      go_enter Try.func42, Try.ntmps42
      go_wp2_with fail
      refine (C1.out _ HB0.out).mono ?_
      rintro e w1 ⟨rfl, hb⟩
      have hc4 : w1.cell? ⟨b, off + F * 4 + 3, none⟩ = some (.slice A' n cc) := ((HB0.out.trans (hb.mono HB0.out.size)).cell (p := ⟨b, _, none⟩) hb0).trans HC4.out
      have HB1 := Lib.hid (HB0.out.trans (hb.mono HB0.out.size))
      clear hb
      go_wp2
      go_ret2
      exact ⟨DnG.err rfl (by decide), HB1.out⟩
    · rw [if_neg hn0]
      have hn3 : ¬ (0 : Int) < n := by omega
      by_cases h1 : l.length = 1
      · rw [if_pos h1]
        have h11 : ((l.length : Int) == 1) = true := by rw [h1]; rfl
        have H1 := Lib.hid h1
        clear h1
        go_enter Try.func42, Try.ntmps42
        go_wp2_with fail
        refine (C1.out _ HB0.out).mono ?_
        rintro e w1 ⟨rfl, hb⟩
        have hc4 : w1.cell? ⟨b, off + F * 4 + 3, none⟩ = some (.slice A' n cc) := ((HB0.out.trans (hb.mono HB0.out.size)).cell (p := ⟨b, _, none⟩) hb0).trans HC4.out
        have HB1 := Lib.hid (HB0.out.trans (hb.mono HB0.out.size))
        clear hb
        go_wp2
        go_ret2
        exact ⟨DnG.err rfl (by decide), HB1.out⟩
      · rw [if_neg h1]
        have h11 : ((l.length : Int) == 1) = false := by rw [beq_eq_false_iff_ne]; omega
        go_enter Try.func42, Try.ntmps42
        go_wp2_with fail
        refine (C1.out _ HB0.out).mono ?_
        rintro e w1 ⟨rfl, hb⟩
        have hc4 : w1.cell? ⟨b, off + F * 4 + 3, none⟩ = some (.slice A' n cc) := ((HB0.out.trans (hb.mono HB0.out.size)).cell (p := ⟨b, _, none⟩) hb0).trans HC4.out
        have HB1 := Lib.hid (HB0.out.trans (hb.mono HB0.out.size))
        have hs1 := HB1.out.size
        have hbx1 : w1.cell? ⟨w.heap.size, 0, none⟩ = some (.string s) := (hb.cell (p := ⟨w.heap.size, 0, none⟩) (by simp)).trans (Boxed.new w 9 (.string s)).cell
        have hlt1 : w.heap.size < w1.heap.size := by have := hb.size; simp at this; omega
        have HBX1 := Lib.hid hbx1
        clear hb hbx1
        go_wp2_with fail
        refine (C3.out _ HB1.out).mono ?_
        rintro e w2 ⟨⟨g, capg, xs, rfl, ⟨hq1, hq2⟩, hmx, hO, hK⟩, hb2⟩
        have hs2 := hb2.size
        obtain ⟨hgl, hgb, -, -⟩ := hO.at_
        have hxl := hO.len
        have c4 := deleteK_any g l.length capg w1.heap.size F xs w2 hO.own (by omega) hF hs2
        have HBX2 := Lib.hid ((hb2.cell (p := ⟨w.heap.size, 0, none⟩) hlt1).trans HBX1.out)
        have HB2 := Lib.hid (HB1.out.trans (hb2.mono hs1))
        have HKK := Lib.hid hK
        have HMX := Lib.hid hmx
        have C4 := Lib.hid c4
        have HQ := Lib.hid hq1
        clear hb2 hO hK hmx c4 HBX1
        go_wp2_with fail
        refine C4.out.mono ?_
        rintro e w3 ⟨rfl, ho3, hg3⟩
        have hs3 := hg3.size
        have hgB : w.heap.size ≠ g := by omega
        have HB3 := Lib.hid (HB2.out.trans (grown_below hg3 (by omega) (fun q hq => by injection hq; omega)))
        have HBX3 := Lib.hid (hg3.cell HBX2.out (by intro e; injection e with e; exact hgB e))
        have HK3 := Lib.hid (HKK.out.erase hxl hF hg3)
        have HO3 := Lib.hid ho3
        have HM3 : Hid ((xs.eraseIdx F).map (·.2) = l.eraseIdx F) := Lib.hid (by
          rw [← HMX.out]
          apply List.ext_getElem?
          intro q
          simp only [List.getElem?_map, List.getElem?_eraseIdx]
          split <;> rfl)
        clear ho3 hg3 HKK HMX C4 HBX2 HB2
        go_wp2
        go_loopw [40] (fun i W => DnL l s F w w1.heap.size g capg i W) (fun i _ => (l.length - 1) - (intOf i).toNat)
        case atStart => exact DnL.mk 0 (xs.eraseIdx F) (Nat.zero_le _) rfl (Lib.hid (by rw [HM3.out]; simp)) HO3 HK3 HBX3 HB3.out
        case round =>
          obtain ⟨k, ys, hk, rfl, hmy, HO, HK, HBX, hB⟩ := hrel
          have hbs := hB.size
          have hel : (l.eraseIdx F).length = l.length - 1 := by rw [List.length_eraseIdx, if_pos hF]
          have hyl : ys.length = l.length - 1 := by have := HO.out.1; rw [tcel_len] at this; omega
          have hOP := OPl.of_own HO.out HK.out
          obtain ⟨hgl4, hgb4, hgc, hgf⟩ := hOP.at_
          by_cases hlt : k < l.length - 1
          · have hky : k < ys.length := by omega
            obtain ⟨hms, hmk⟩ := mid_set (noS s) (l.eraseIdx F) k (by omega)
            have hyk : ys[k].2 = (l.eraseIdx F)[k] := by
              rw [← hmy.out, List.getElem?_map, List.getElem?_eq_getElem hky] at hmk
              simpa using hmk
            have hfew : ys[k].2.af.length ≤ 10 := by
              have h1 := HP.out.few (sg F k) (sg_bd hF hlt)
              have h2 : tkA l (sg F k) = (l.eraseIdx F)[k] := by
                have h3 : (l.eraseIdx F)[k]? = l[sg F k]? := by rw [List.getElem?_eraseIdx]; unfold sg; split <;> rfl
                rw [List.getElem?_eq_getElem (by omega)] at h3
                unfold tkA; rw [← h3]; rfl
              rw [hyk, ← h2]; exact h1
            have hxk : ys[k]?.getD dTR = ys[k] := by rw [List.getElem?_eq_getElem hky]; rfl
            have hc3 := hgc k 3 hlt (by omega)
            have hf3 := hgf (k * 4 + 3)
            have hown := HK.out.own k hlt hky
            have hne := HK.out.ne k hlt hky
            have hm2 : ∀ a : Option Addr × Nat × Nat, (ys.set k ((a, noS s ys[k].2) : TkR)).map (·.2) = ((l.eraseIdx F).take (k + 1)).map (noS s) ++ (l.eraseIdx F).drop (k + 1) := fun a => by
              rw [List.map_set, hmy.out, ← hms, hyk]
            have htc := fun (a : Option Addr × Nat × Nat) => tcel_set ys k 3 (.slice a.1 a.2.1 a.2.2) ((a, noS s ys[k].2) : TkR) hky (by omega) (by rw [hxk]; rfl)
            have hturn := fun (y : TkR) (v : Value) W' (hg : wr.grownBy W' (obA (xA ys k))) (hy : ownA W' w1.heap.size y) (hob : obA y = obA (xA ys k)) => HK.out.turn (i := k * 4 + 3) (v := v) hlt hky hg hy hob
            have hxA : xA ys k = ys[k] := hxk
            rw [hxk] at hc3
            rw [hxA] at hown hne hturn
            generalize ys[k] = y at *
            obtain ⟨⟨A5, n5, c5⟩, t⟩ := y
            change wr.cell? _ = some (.slice A5 n5 c5) at hc3
            change t.af.length ≤ 10 at hfew
            change wr.ownsRow w1.heap.size 9 1 (.slice A5 n5 c5) n5 (scel t.af) at hown
            have hn5 : t.af.length = n5 := by have := hown.1; rw [scel_len] at this; omega
            have hk1 : (k : Int) < ((l.length - 1 : Nat) : Int) := by omega
            have hk2 : ¬ l.length - 1 ≤ k := by omega
            have hgB : w.heap.size ≠ g := by omega
            have hmf : ∀ (fn : Fn) (first cap : Array Value) (w : World), (Instr.makeFunc fn first cap).run Try.prog w = .ok (.func fn first cap) w := fun _ _ _ _ => rfl
            have HM2 := Lib.hid hm2
            have HTC := Lib.hid htc
            have HTU := Lib.hid hturn
            have HB := Lib.hid hB
            cases A5 with
            | none =>
              have h00 : n5 = 0 ∧ c5 = 0 := by
                rcases hown.2 with ⟨h', _⟩ | ⟨g', cap', cur, h', _⟩
                · injection h' with h1 h2 h3; exact ⟨h2, h3⟩
                · cases h'
              obtain ⟨rfl, rfl⟩ := h00
              have haf : t.af = [] := List.eq_nil_of_length_eq_zero hn5
              have hnoS : noS s t = t := by
                unfold noS
                rw [haf]
                cases t; simp_all
              have C5 := Lib.hid (deleteFunc_nil s w.heap.size 0 wr HBX.out)
              have HK5 := Lib.hid (HTU.out (((none, 0, 0), noS s t) : TkR) (.slice none 0 0) wr (World.grownBy.refl _ _) (by rw [hnoS]; exact hown) rfl)
              have HM5 := Lib.hid (HM2.out (none, 0, 0))
              have HT5 : Hid ((wr.setCell ⟨g, k * 4 + 3, none⟩ (.slice none 0 0)).ownsRow w1.heap.size 43 4 (.slice (some ⟨g, 0, none⟩) (l.length - 1) capg) (l.length - 1) (tcel (ys.set k (((none, 0, 0), noS s t) : TkR)))) := Lib.hid (by
                rw [← HTC.out (none, 0, 0)]
                exact (HO.out.stored (k * 4 + 3) _).1)
              have HBX6 : Hid ((wr.setCell ⟨g, k * 4 + 3, none⟩ (.slice none 0 0)).cell? ⟨w.heap.size, 0, none⟩ = some (.string s)) := Lib.hid (by
                rw [World.cell?_setCell_other _ _ _ _ (by intro e; injection e with e; exact hgB e.symm)]
                exact HBX.out)
              have hgw : w.heap.size ≤ g := by omega
              have HB6 := Lib.hid (HB.out.setCell (p := ⟨g, k * 4 + 3, none⟩) hgw (.slice none 0 0))
              clear hm2 htc hturn hms hmk hyk hgc hgf hown hne hOP hxk hxA hB HTU HTC HM2 hnoS haf hn5
              go_wp2_with fail
              refine C5.out.mono ?_
              rintro e w5 ⟨rfl, rfl⟩
              go_wp2
              go_roundw
              case rel => exact DnL.mk (k + 1) _ (by omega) (by go_num) HM5 HT5 HK5 HBX6 HB6.out
              case measure => simp [intOf]; omega
            | some ad =>
              obtain ⟨g5, rfl⟩ : ∃ g5, ad = ⟨g5, 0, none⟩ := by
                rcases hown.2 with ⟨h', _⟩ | ⟨g', cap', cur, h', _⟩
                · cases h'
                · injection h' with h'; injection h' with h'; exact ⟨g', h'⟩
              have hg5 : g5 ≠ g := fun e => hne (by rw [← e]; rfl)
              have hB5 : w.heap.size ≠ g5 := by have := (hown.lt g5 rfl).1; omega
              have c5' := deleteFunc_any s w.heap.size w1.heap.size g5 n5 c5 t.af wr hown (by omega) HBX.out hB5
              have C5 := Lib.hid c5'
              have hb5g := (hown.lt g5 rfl).1
              clear hm2 htc hturn hms hmk hyk hgc hgf hown hne c5' hOP hxk hxA hB
              go_wp2_with fail
              refine C5.out.mono ?_
              rintro e w5 ⟨rfl, ho5, hg5'⟩
              have hc8 := hg5'.cell hc3 (by intro e; injection e with e; exact hg5 e.symm)
              have HO5 := Lib.hid (HO.out.kept hg5' (.inr (by intro e; exact hg5 (by injection e with e; exact e.symm))))
              have hf8 : w5.frozen? ⟨g, k * 4 + 3, none⟩ = false := HO5.out.frozenAt _
              have HBX5 := Lib.hid (hg5'.cell HBX.out (by intro e; injection e with e; exact hB5 e))
              have HB5 := Lib.hid (HB.out.trans (grown_below hg5' hbs (fun q hq => by injection hq; omega)))
              have HK5 := Lib.hid (HTU.out (((some ⟨g5, 0, none⟩, (flt s t.af).length, c5), noS s t) : TkR) (.slice (some ⟨g5, 0, none⟩) (flt s t.af).length c5) w5 hg5' ho5 rfl)
              have HM5 := Lib.hid (HM2.out (some ⟨g5, 0, none⟩, (flt s t.af).length, c5))
              have HT5 : Hid ((w5.setCell ⟨g, k * 4 + 3, none⟩ (.slice (some ⟨g5, 0, none⟩) (flt s t.af).length c5)).ownsRow w1.heap.size 43 4 (.slice (some ⟨g, 0, none⟩) (l.length - 1) capg) (l.length - 1) (tcel (ys.set k (((some ⟨g5, 0, none⟩, (flt s t.af).length, c5), noS s t) : TkR)))) := Lib.hid (by
                rw [← HTC.out (some ⟨g5, 0, none⟩, (flt s t.af).length, c5)]
                exact (HO5.out.stored (k * 4 + 3) _).1)
              have HBX6 : Hid ((w5.setCell ⟨g, k * 4 + 3, none⟩ (.slice (some ⟨g5, 0, none⟩) (flt s t.af).length c5)).cell? ⟨w.heap.size, 0, none⟩ = some (.string s)) := Lib.hid (by
                rw [World.cell?_setCell_other _ _ _ _ (by intro e; injection e with e; exact hgB e.symm)]
                exact HBX5.out)
              have hgw : w.heap.size ≤ g := by omega
              have HB6 := Lib.hid (HB5.out.setCell (p := ⟨g, k * 4 + 3, none⟩) hgw (.slice (some ⟨g5, 0, none⟩) (flt s t.af).length c5))
              clear ho5 hg5' HTU HTC HM2 HO5 HBX5 HB5 hc3 hf3
              go_wp2
              go_roundw
              case rel => exact DnL.mk (k + 1) _ (by omega) (by go_num) HM5 HT5 HK5 HBX6 HB6.out
              case measure => simp [intOf]; omega
          · have hkn : k = l.length - 1 := by omega
            have hk1 : ¬ (k : Int) < ((l.length - 1 : Nat) : Int) := by omega
            have HM9 : Hid (ys.map (·.2) = dnT l F) := Lib.hid (by
              rw [hmy.out, hkn, List.take_of_length_le (by omega), List.drop_of_length_le (by omega), List.append_nil]
              unfold dnT
              rw [HNM.out])
            have HOP := Lib.hid hOP
            have HB := Lib.hid hB
            have hq9 : l.length - 1 ≤ capg := by have := HQ.out; omega
            have HQ9 := Lib.hid hq9
            have HQ2 := Lib.hid hq2
            clear hOP hB hgc hgf hmy hq9
            go_wp2
            go_ret2
            exact ⟨DnG.mk rfl ⟨HQ9.out, HQ2.out⟩ HM9.out ⟨jown_mono HOP.out.own hs1, HOP.out.ok, HOP.out.nb⟩, HB.out⟩
  · have hne : (nmE l s == 0) = false := by simpa using h0
    have hE : dnE l s = nmE l s := by unfold dnE; rw [if_neg h0]
    rw [hE]
    have hE0 := Lib.hid h0
    generalize nmE l s = E at *
    have C1 := Lib.hid c1
    clear c1 hx h0 hE
    go_enter Try.func42, Try.ntmps42
    go_wp2_with fail
    refine (C1.out _ HB0.out).mono ?_
    rintro e w1 ⟨rfl, hb⟩
    have hb2 := Lib.hid (HB0.out.trans (hb.mono HB0.out.size))
    clear hb
    go_wp2
    go_ret2
    exact ⟨DnG.err rfl hE0.out, hb2.out⟩
end Go.Proofs.Ytgijekhlbkfanaa

namespace Go.Proofs.Ytgijekhlbkfanaa
open Go.RowKit
attribute [local go_sem] Later.cell Same.cell

def dlE (l : List Tk) (s : ByteArray) (by' : Int) : Int := if nmE l s = 0 then (if wi by' 0 1000 then (if 1000 < dyA l (fnd l s) + by' then 4 else 0) else 7) else nmE l s
/-- What Delayed hands back. -/
def DlG (l : List Tk) (F : Nat) (by' E : Int) (w : World) (e : Ending) (w' : World) : Prop := ∃ v, e = .returned (.tuple #[v, .int .i64 E]) ∧ (E = 0 → ∃ g cap xs, v = .slice (some ⟨g, 0, none⟩) l.length cap ∧ (l.length ≤ cap ∧ cap ≤ maxLen) ∧ xs.map (·.2) = dlT l F by' ∧ OPl w' w.heap.size g cap l.length xs) ∧ (E ≠ 0 → v = .slice none 0 0)
def DlR (l : List Tk) (s : ByteArray) (by' : Int) (w : World) (e : Ending) (w' : World) : Prop := DlG l (fnd l s) by' (dlE l s by') w e w'
theorem DlG.err {l : List Tk} {F : Nat} {by' E : Int} {w w' : World} {e : Ending} (he : e = .returned (.tuple #[.slice none 0 0, .int .i64 E])) (h : E ≠ 0) : DlG l F by' E w e w' := ⟨_, he, fun h' => absurd h' h, fun _ => rfl⟩
theorem DlG.mk {l : List Tk} {F : Nat} {by' : Int} {w w' : World} {e : Ending} {g cap : Nat} {xs : List TkR} (he : e = .returned (.tuple #[.slice (some ⟨g, 0, none⟩) l.length cap, .int .i64 0])) (hq : l.length ≤ cap ∧ cap ≤ maxLen) (hm : xs.map (·.2) = dlT l F by') (ho : OPl w' w.heap.size g cap l.length xs) : DlG l F by' 0 w e w' := ⟨_, he, fun _ => ⟨g, cap, xs, rfl, hq, hm, ho⟩, fun h => absurd rfl h⟩
set_option maxRecDepth 20000 in
set_option maxHeartbeats 16000000 in
theorem Delayed_any (A : Option Addr) (len cap : Nat) (l : List Tk) (s : ByteArray) (by' : Int) (w : World) (hS : Sml l) (hs : s.size ≤ 9223372036854775807) (hby : -9223372036854775808 ≤ by' ∧ by' ≤ 9223372036854775807) (hx : Plan w w.heap.size A len l) :
    Calls Try.prog 39 #[.slice A len cap, .string s, .int .i64 by'] w fun e w' => DlR l s by' w e w' ∧ Below w.heap.size w w' := by
  obtain rfl : l.length = len := hx.1
  have c1 := named_any A l.length cap l s w hS hs hx
  have c2 := fun W => jwithin_any by' 0 1000 W
  have C2 := Lib.hid c2
  clear c2
  by_cases h0 : nmE l s = 0
  · have hn : nmV l s = (fnd l s : Int) := by unfold nmV; rw [if_pos h0]
    have hc : checkE l = 0 ∧ fnd l s < l.length := by
      rcases nm_cases l s with ⟨a, b, -⟩ | ⟨-, -, a, -⟩ | ⟨a, b, -⟩
      · exact ⟨a, b⟩
      · rw [h0] at a; cases a
      · rw [h0] at b; exact absurd b.symm a
    have hP := check_spec hc.1
    have hF := hc.2
    have c3 := fun W (h : Below w.heap.size w W) => copied_any A l.length cap l W hP (hx.go h)
    rw [hn, h0] at c1
    have hE : dlE l s by' = if wi by' 0 1000 then (if 1000 < dyA l (fnd l s) + by' then 4 else 0) else 7 := by unfold dlE; rw [if_pos h0]
    have hdb := dy_bd hP hF
    have hL := hP.len
    have HX := Lib.hid hx
    have hD : DlR l s by' = fun w e w' => DlG l (fnd l s) by' (dlE l s by') w e w' := rfl
    rw [hD]
    rw [hE]
    generalize fnd l s = F at *
    have hF1 : (F : Int) < l.length := by omega
    have hF2 : ¬ l.length ≤ F := by omega
    have C1 := Lib.hid c1
    have C3 := Lib.hid c3
    have HP := Lib.hid hP
    cases hw : wi by' 0 1000
    · rw [if_neg (by decide)]
      have hcw := C2.out
      rw [hw] at hcw
      have C2' := Lib.hid hcw
      clear c1 c3 hx h0 hn hc hP hE hD hS hcw hw C2 hs
      go_enter Try.func39, Try.ntmps39
      go_wp2_with fail
      refine C1.out.mono ?_
      rintro e w1 ⟨rfl, hb⟩
      have HB1 := Lib.hid hb
      clear hb
      go_wp2_with fail
      refine (C2'.out _).mono ?_
      rintro e w2 ⟨rfl, rfl⟩
      go_wp2
      go_ret2
      exact ⟨DlG.err rfl (by decide), HB1.out⟩
    · rw [if_pos rfl]
      have hcw := C2.out
      rw [hw] at hcw
      have C2' := Lib.hid hcw
      have hbw := wi_iff.1 hw
      obtain ⟨b, off, rfl, hb0, -, hcd, -, -⟩ := hx.at_ F hF
      change w.cell? _ = some (.int .i64 (dyA l F)) at hcd
      have HCD := Lib.hid hcd
      obtain ⟨D, hDD⟩ : ∃ D, D = dyA l F := ⟨_, rfl⟩
      rw [← hDD] at hdb
      have HDD := Lib.hid hDD
      rw [← hDD]
      have hwr : wrap64 (D + by') = D + by' := IntWalk.wrap64_in _ ⟨by omega, by omega⟩
      have HWR := Lib.hid hwr
      by_cases hgt : 1000 < D + by'
      · rw [if_pos hgt]
        clear c1 c3 hx h0 hn hc hP hE hD hS hcw hw C2 hcd hDD hwr hs
        go_enter Try.func39, Try.ntmps39
        go_wp2_with fail
        refine C1.out.mono ?_
        rintro e w1 ⟨rfl, hb⟩
        have HB1 := Lib.hid hb
        have hcd : w1.cell? ⟨b, off + F * 4 + 1, none⟩ = some (.int .i64 D) := by rw [hb.cell (p := ⟨b, _, none⟩) hb0, HDD.out]; exact HCD.out
        clear hb
        go_wp2_with fail
        refine (C2'.out _).mono ?_
        rintro e w2 ⟨rfl, rfl⟩
        have hwr := HWR.out
        go_wp2
        go_ret2
        exact ⟨DlG.err rfl (by decide), HB1.out⟩
      · rw [if_neg hgt]
        clear c1 c3 hx h0 hn hc hP hE hD hS hcw hw C2 hcd hDD hwr hs
        go_enter Try.func39, Try.ntmps39
        go_wp2_with fail
        refine C1.out.mono ?_
        rintro e w1 ⟨rfl, hb⟩
        have HB1 := Lib.hid hb
        have hcd : w1.cell? ⟨b, off + F * 4 + 1, none⟩ = some (.int .i64 D) := by rw [hb.cell (p := ⟨b, _, none⟩) hb0, HDD.out]; exact HCD.out
        clear hb
        go_wp2_with fail
        refine (C2'.out _).mono ?_
        rintro e w2 ⟨rfl, rfl⟩
        have hwr := HWR.out
        go_wp2_with fail
        clear hcd
        refine (C3.out _ HB1.out).mono ?_
        rintro e w3 ⟨⟨g, cap3, xs, rfl, ⟨hq1, hq2⟩, hmx, hO⟩, hb⟩
        have hs1 := HB1.out.size
        have HB3 := Lib.hid (HB1.out.trans (hb.mono hs1))
        obtain ⟨hgl, hgb, hgc, hgf⟩ := hO.at_
        have hxl := hO.len
        have hkx : F < xs.length := by omega
        have hxk : xs[F]?.getD dTR = xs[F] := by rw [List.getElem?_eq_getElem hkx]; rfl
        have hx2 : tkA l F = xs[F].2 := by unfold tkA; rw [← hmx, List.getElem?_map, List.getElem?_eq_getElem hkx]; rfl
        have hc3 := hgc F 1 hF (by omega)
        have hf3 := hgf (F * 4 + 1)
        rw [hxk] at hc3
        have hd3 : xs[F].2.dy = D := by rw [← hx2, HDD.out]; rfl
        change w3.cell? _ = some (.int .i64 xs[F].2.dy) at hc3
        rw [hd3] at hc3
        have HO9 := Lib.hid (hO.store (k := F) (j := 1) (v := .int .i64 (D + by')) (y := (xs[F].1, { xs[F].2 with dy := D + by' })) hF (by omega) (by rw [hxk]; rfl) (hO.ok xs[F] (List.getElem_mem hkx)) (fun h => hO.nb xs[F] (List.getElem_mem hkx) h))
        have HMX : Hid ((xs.set F (xs[F].1, { xs[F].2 with dy := D + by' })).map (·.2) = dlT l F by') := Lib.hid (by
          rw [List.map_set, hmx]
          unfold dlT
          rw [hx2, HDD.out])
        have hgw : w.heap.size ≤ g := by omega
        have HB9 := Lib.hid (HB3.out.setCell (p := ⟨g, F * 4 + 1, none⟩) hgw (.int .i64 (D + by')))
        have HQ := Lib.hid hq1
        clear hgc hgf hmx hxk hx2 hd3 hO hb HDD HCD
        go_wp2
        go_ret2
        exact ⟨DlG.mk rfl ⟨HQ.out, hq2⟩ HMX.out ⟨jown_mono HO9.out.own hs1, HO9.out.ok, HO9.out.nb⟩, HB9.out⟩
  · have hne : (nmE l s == 0) = false := by simpa using h0
    have hE : dlE l s by' = nmE l s := by unfold dlE; rw [if_neg h0]
    have hD : DlR l s by' = fun w e w' => DlG l (fnd l s) by' (dlE l s by') w e w' := rfl
    rw [hD, hE]
    have hE0 := Lib.hid h0
    generalize nmE l s = E at *
    have C1 := Lib.hid c1
    clear c1 hx h0 hE hD
    go_enter Try.func39, Try.ntmps39
    go_wp2_with fail
    refine C1.out.mono ?_
    rintro e w1 ⟨rfl, hb⟩
    have hb2 := Lib.hid hb
    clear hb
    go_wp2
    go_ret2
    exact ⟨DlG.err rfl hE0.out, hb2.out⟩
end Go.Proofs.Ytgijekhlbkfanaa

namespace Go.Proofs.Ytgijekhlbkfanaa
open Go.RowKit

def dlL (l : List Tk) (s : ByteArray) (by' : Int) : List Tk := if dlE l s by' = 0 then dlT l (fnd l s) by' else []
def dnL (l : List Tk) (s : ByteArray) : List Tk := if dnE l s = 0 then dnT l (fnd l s) else []
theorem nil_plan (W : World) (B : Nat) : Plan W B none 0 [] := ⟨rfl, fun h => absurd h (Nat.lt_irrefl 0)⟩
theorem DlR.plan {l : List Tk} {s : ByteArray} {by' : Int} {w w' : World} {e : Ending} (h : DlR l s by' w e w') : ∃ A n c, e = .returned (.tuple #[.slice A n c, .int .i64 (dlE l s by')]) ∧ n = (dlL l s by').length ∧ Plan w' w'.heap.size A n (dlL l s by') := by
  obtain ⟨v, he, h1, h2⟩ := h
  unfold dlL
  by_cases h0 : dlE l s by' = 0
  · obtain ⟨g, cap, xs, rfl, hq, hm, ho⟩ := h1 h0
    have hp := ho.plan
    rw [hm] at hp
    rw [if_pos h0]
    exact ⟨_, _, _, he, (dlT_len _ _ _).symm, hp⟩
  · rw [h2 h0] at he
    rw [if_neg h0]
    exact ⟨_, _, _, he, rfl, nil_plan _ _⟩
theorem dn_lt {l : List Tk} {s : ByteArray} (h : dnE l s = 0) : checkE l = 0 ∧ fnd l s < l.length ∧ l.length ≠ 1 ∧ nmE l s = 0 := by
  unfold dnE at h
  by_cases h0 : nmE l s = 0
  · rw [if_pos h0] at h
    have hc : checkE l = 0 ∧ fnd l s < l.length := by
      rcases nm_cases l s with ⟨a, b, -⟩ | ⟨-, -, a, -⟩ | ⟨a, b, -⟩
      · exact ⟨a, b⟩
      · rw [h0] at a; cases a
      · rw [h0] at b; exact absurd b.symm a
    refine ⟨hc.1, hc.2, fun h1 => ?_, h0⟩
    by_cases hp : 0 < (tkA l (fnd l s)).af.length
    · rw [if_pos hp] at h; cases h
    · rw [if_neg hp, if_pos h1] at h; cases h
  · rw [if_neg h0] at h; exact absurd h h0
theorem DnR.plan {l : List Tk} {s : ByteArray} {w w' : World} {e : Ending} (h : DnR l s w e w') : ∃ A n c, e = .returned (.tuple #[.slice A n c, .int .i64 (dnE l s)]) ∧ n = (dnL l s).length ∧ Plan w' w'.heap.size A n (dnL l s) := by
  obtain ⟨v, he, h1, h2⟩ := h
  unfold dnL
  by_cases h0 : dnE l s = 0
  · obtain ⟨g, cap, xs, rfl, hq, hm, ho⟩ := h1 h0
    have hp := ho.plan
    rw [hm] at hp
    rw [if_pos h0]
    exact ⟨_, _, _, he, (dnT_len (dn_lt h0).2.1).symm, hp⟩
  · rw [h2 h0] at he
    rw [if_neg h0]
    exact ⟨_, _, _, he, rfl, nil_plan _ _⟩
theorem tkA_out {l : List Tk} {i : Nat} (h : ¬ i < l.length) : (tkA l i).af = [] := by unfold tkA; rw [List.getElem?_eq_none (by omega)]; rfl
theorem dlL_af {l : List Tk} {s : ByteArray} {by' : Int} (h : ∀ i, i < l.length → (tkA l i).af.length ≤ 20) (i : Nat) : (tkA (dlL l s by') i).af.length ≤ 1000 := by
  have hb : ∀ j, (tkA l j).af.length ≤ 1000 := fun j => by
    by_cases hj : j < l.length
    · have := h j hj; omega
    · rw [tkA_out hj]; simp
  unfold dlL
  split
  · by_cases hF : fnd l s < l.length
    · rw [(dlT_alike hF).af]; exact hb i
    · have : dlT l (fnd l s) by' = l := by unfold dlT; rw [List.set_eq_of_length_le (by omega)]
      rw [this]; exact hb i
  · rw [tkA_out (by simp)]; simp
theorem dnL_af {l : List Tk} {s : ByteArray} (h : ∀ i, i < l.length → (tkA l i).af.length ≤ 20) (i : Nat) : (tkA (dnL l s) i).af.length ≤ 1000 := by
  unfold dnL
  split
  · rename_i h0
    have hF := (dn_lt h0).2.1
    by_cases hi : i < l.length - 1
    · rw [dnT_at hF hi]
      have h1 := h (sg (fnd l s) i) (sg_bd hF hi)
      have h2 := List.length_filter_le (fun x => !decide (x = (tkA l (fnd l s)).nm)) (tkA l (sg (fnd l s) i)).af
      show ((tkA l (sg (fnd l s) i)).af.filter _).length ≤ 1000
      omega
    · rw [tkA_out (by rw [dnT_len hF]; exact hi)]; simp
  · rw [tkA_out (by simp)]; simp
theorem dlL_len (l : List Tk) (s : ByteArray) (by' : Int) : (dlL l s by').length ≤ l.length := by
  unfold dlL
  split
  · rw [dlT_len]; exact Nat.le_refl _
  · exact Nat.zero_le _
theorem dnL_len (l : List Tk) (s : ByteArray) : (dnL l s).length ≤ l.length := by
  unfold dnL dnT
  split
  · rw [List.length_map]; exact List.length_eraseIdx_le ..
  · exact Nat.zero_le _
theorem sml_dl {l : List Tk} (hS : Sml l) {i : Nat} {d : Int} (hi : i < l.length) : Sml (dlT l i d) := by
  have ha := dlT_alike (d := d) hi
  refine ⟨by rw [ha.len]; exact hS.len, fun j hj => ?_, fun j hj => ?_, fun j hj => ?_⟩
  · rw [ha.len] at hj; rw [ha.nm]; exact hS.nm j hj
  · rw [ha.len] at hj; rw [ha.af]; exact hS.af j hj
  · rw [ha.len] at hj; rw [ha.af]; exact hS.an j hj
/-- A plan that could be delayed. -/
theorem dl_fin {l : List Tk} {s : ByteArray} {by' : Int} (hS : Sml l) (hE : dlE l s by' = 0) : Sml (dlT l (fnd l s) by') ∧ nmE l s = 0 ∧ checkE (dlT l (fnd l s) by') = 0 ∧ lenE l ≤ lenE (dlT l (fnd l s) by') ∧ (by' ≤ slkV l s → lenE (dlT l (fnd l s) by') = lenE l) := by
  unfold dlE at hE
  by_cases h0 : nmE l s = 0
  · rw [if_pos h0] at hE
    have hc : checkE l = 0 ∧ fnd l s < l.length := by
      rcases nm_cases l s with ⟨a, b, -⟩ | ⟨-, -, a, -⟩ | ⟨a, b, -⟩
      · exact ⟨a, b⟩
      · rw [h0] at a; cases a
      · rw [h0] at b; exact absurd b.symm a
    have hP := check_spec hc.1
    cases hw : wi by' 0 1000
    · rw [hw, if_neg (by decide)] at hE; cases hE
    · rw [hw, if_pos rfl] at hE
      have hbw := wi_iff.1 hw
      have hm : dyA l (fnd l s) + by' ≤ 1000 := by
        by_cases hg : 1000 < dyA l (fnd l s) + by'
        · rw [if_pos hg] at hE; cases hE
        · omega
      have hk := check_mk (dlT_ok hP hc.2 hbw.1 hm)
      have hd := lenV_delay hP hc.2 hbw.1 hm
      have e1 : lenE (dlT l (fnd l s) by') = lenV (dlT l (fnd l s) by') := if_pos hk
      have e2 : lenE l = lenV l := if_pos hc.1
      have e3 : slkV l s = slk l (fnd l s) := if_pos h0
      refine ⟨sml_dl hS hc.2, h0, hk, ?_, fun hle => ?_⟩
      · rw [e1, e2, hd]; unfold imax; split <;> omega
      · rw [e1, e2, hd]; rw [e3] at hle; unfold imax; split <;> omega
  · rw [if_neg h0] at hE; exact absurd hE h0
theorem dn_fin {l : List Tk} {s : ByteArray} (hS : Sml l) (hE : dnE l s = 0) : Sml (dnT l (fnd l s)) ∧ checkE (dnT l (fnd l s)) = 0 ∧ lenE (dnT l (fnd l s)) ≤ lenE l ∧ fnd l s < l.length := by
  obtain ⟨h1, h2, h3, h4⟩ := dn_lt hE
  have hP := check_spec h1
  have hk := check_mk (dn_ok hP h2 h3)
  have e1 : lenE (dnT l (fnd l s)) = lenV (dnT l (fnd l s)) := if_pos hk
  have e2 : lenE l = lenV l := if_pos h1
  have hlen := dnT_len h2
  refine ⟨⟨by rw [hlen]; have := hS.len; omega, fun j hj => ?_, fun j hj => ?_, fun j hj t ht => ?_⟩, hk, by rw [e1, e2]; exact dn_lenV hP h2 h3, h2⟩
  · rw [hlen] at hj; rw [dnT_at h2 hj]; exact hS.nm _ (sg_bd h2 hj)
  · rw [hlen] at hj; rw [dnT_at h2 hj]
    have h5 := hS.af _ (sg_bd h2 hj)
    have h6 := List.length_filter_le (fun x => !decide (x = (tkA l (fnd l s)).nm)) (tkA l (sg (fnd l s) j)).af
    show ((tkA l (sg (fnd l s) j)).af.filter _).length ≤ 1000
    omega
  · rw [hlen] at hj; rw [dnT_at h2 hj] at ht
    exact hS.an _ (sg_bd h2 hj) t (List.mem_filter.1 ht).1
end Go.Proofs.Ytgijekhlbkfanaa
