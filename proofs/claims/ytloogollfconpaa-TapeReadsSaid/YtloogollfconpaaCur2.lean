/- Currents between two nodes. -/
import Derived.Test.YtloogollfconpaaCur1
import Derived.Test.YtloogollfconpaaMixR
import Derived.Sort.CutIn
import Derived.Deep.DeepCutAuto
set_option linter.unusedSimpArgs false
set_option linter.unusedVariables false
namespace Go.Proofs.Ytloogollfconpaa
open Go.RowKit Go.Shelf
attribute [local go_sem] Oper.semAt_some Same.cell Later.cell

theorem ca_six {W : World} {ub : Nat} (R : List Int) (h : CA W ub [.int .i64 0, .int .i64 0, .int .i64 0, .int .i64 0, .int .i64 0, .int .i64 0]) :
    CA ((((((W.setCell ⟨ub, 0, none⟩ (.int .i64 (num R 0))).setCell ⟨ub, 1, none⟩ (.int .i64 (num R 1))).setCell ⟨ub, 2, none⟩ (.int .i64 (num R 2))).setCell ⟨ub, 3, none⟩ (.int .i64 (num R 3))).setCell ⟨ub, 4, none⟩ (.int .i64 (num R 4))).setCell ⟨ub, 5, none⟩ (.int .i64 (num R 5))) ub
      [.int .i64 (num R 0), .int .i64 (num R 1), .int .i64 (num R 2), .int .i64 (num R 3), .int .i64 (num R 4), .int .i64 (num R 5)] :=
  ((((((h.set (k := 0) (by simp) _).set (k := 1) (by simp) _).set (k := 2) (by simp) _).set (k := 3) (by simp) _).set (k := 4) (by simp) _).set (k := 5) (by simp) _)
theorem ca_at6 {W : World} {ub : Nat} {R : List Int} (h : CA W ub [.int .i64 (num R 0), .int .i64 (num R 1), .int .i64 (num R 2), .int .i64 (num R 3), .int .i64 (num R 4), .int .i64 (num R 5)]) {x : Int} (hx : nod x) : W.cell? ⟨ub, x.toNat, none⟩ = some (.int .i64 (at6 R x)) := by
  refine (h.2 x.toNat _ ?_).1
  rw [← num_at6']
  have hx0 := hx.1
  have hx1 := hx.2
  have : x.toNat = 0 ∨ x.toNat = 1 ∨ x.toNat = 2 ∨ x.toNat = 3 ∨ x.toNat = 4 ∨ x.toNat = 5 := by omega
  rcases this with e | e | e | e | e | e <;> rw [e] <;> rfl
/-- What stands at the head of the inner loop. -/
def FlR (W0 W : World) (S T m : Nat) (fl : List Value) (Tt : Int) (Wr : World) : Prop :=
  (((CA Wr (T + 1) [.int .i64 Tt] ∧ CA Wr (S + 1 + 1 + 1) fl) ∧ CA Wr T [.slice (some ⟨S + 1 + 1 + 1, 0, none⟩) m m]) ∧ Below (S + 1 + 1 + 1) W0 Wr) ∧ KeepsFrom W0.heap.size W Wr ∧ KeepB (S + 1 + 1 + 1) (T + 1 + 1) W Wr
theorem FlR.later {W0 W : World} {S T m : Nat} {fl : List Value} {Tt : Int} {Wr Wq : World} (h : FlR W0 W S T m fl Tt Wr) (hb : Below Wr.heap.size Wr Wq) (h1 : S + 1 + 1 + 1 ≤ Wr.heap.size) (h2 : T + 1 + 1 < Wr.heap.size) : FlR W0 W S T m fl Tt Wq := by
  obtain ⟨⟨⟨⟨g1, g2⟩, g3⟩, g4⟩, g5, g6⟩ := h
  exact ⟨⟨⟨⟨g1.later hb, g2.later hb⟩, g3.later hb⟩, g4.trans (hb.mono h1)⟩, g5.trans (keepsFrom_of_below hb), g6.t (KeepB.of_below hb h1 h2)⟩
theorem FlR.store {W0 W : World} {S T m : Nat} {fl : List Value} {Tt : Int} {Wr : World} (h : FlR W0 W S T m fl Tt Wr) (hT : S + 1 + 1 + 1 < T) {j : Nat} (hj : j < fl.length) (v : Value) : FlR W0 W S T m (fl.set j v) Tt (Wr.setCell ⟨S + 1 + 1 + 1, j, none⟩ v) := by
  obtain ⟨⟨⟨⟨g1, g2⟩, g3⟩, g4⟩, g5, g6⟩ := h
  refine ⟨⟨⟨⟨g1.other (by show S + 1 + 1 + 1 ≠ T + 1; omega) _, g2.set hj _⟩, g3.other (by show S + 1 + 1 + 1 ≠ T; omega) _⟩, g4.setCell (Nat.le_refl _) _⟩, g5.trans ((KeepsOthers.setCell _ _ _).from _), g6.set (Nat.le_refl _) (by show S + 1 + 1 + 1 ≠ T + 1 + 1; omega) _⟩
/-- The result of currents between two nodes of one class. -/
def nearN (R : List Int) (c : Int) (l : List Tp) (k : Nat) : List Nat := (List.range k).filter fun i => at6 R (tpA l i).1 == c
theorem nearI_N (R : List Int) (c : Int) (l : List Tp) (k : Nat) : nearI R c l k = (nearN R c l k).map fun i : Nat => (i : Int) := rfl
theorem nearN_lt {R : List Int} {c : Int} {l : List Tp} {k i : Nat} (h : i < (nearN R c l k).length) : (nearN R c l k)[i]?.getD 0 < k := by
  rw [List.getElem?_eq_getElem h]
  have := List.getElem_mem h
  unfold nearN at this
  exact List.mem_range.1 (List.mem_filter.1 this).1
theorem nearN_len (R : List Int) (c : Int) (l : List Tp) : ∀ k, k ≤ l.length → (nearN R c l k).length = (nearK R c l k).length := by
  intro k
  induction k with
  | zero => intro _; rfl
  | succ k ih =>
    intro hk
    have h1 := ih (by omega)
    have e1 : (nearI R c l (k + 1)).length = (nearN R c l (k + 1)).length := by rw [nearI_N, List.length_map]
    have e2 : (nearI R c l k).length = (nearN R c l k).length := by rw [nearI_N, List.length_map]
    by_cases h : at6 R (tpA l k).1 = c
    · obtain ⟨q1, q2⟩ := nearK_yes (R := R) (c := c) (k := k) (by omega) h
      rw [← e1, q1, q2, List.length_append, List.length_append, e2, h1]; rfl
    · obtain ⟨q1, q2⟩ := nearK_no (R := R) (c := c) (k := k) (by omega) h
      rw [← e1, q1, q2, e2, h1]
/-- What stands at the head of the last loop. -/
def CdP (w : World) (S T D n : Nat) (NI : List Nat) (F : Nat → Int) (TN : Int) (m : Nat) (A2 : Option Addr) (j : Nat) (X : World) : Prop :=
  CA X (w.heap.size + 1 + 1) (pcells (outK n NI F TN j)) ∧ CA X (S + 1 + 1 + 1) ((List.range m).map fun i => .int .i64 (F i)) ∧ CA X (T + 1) [.int .i64 TN] ∧
  (∀ i, i < m → ∃ g, A2 = some ⟨g, 0, none⟩ ∧ w.heap.size + 1 + 1 < g ∧ g < S ∧ X.cell? ⟨g, i, none⟩ = some (.int .i64 ((NI[i]?.getD 0 : Nat) : Int))) ∧ T + 1 + 1 + 1 ≤ X.heap.size ∧ X.heap[D]? = some (.deferred (some [])) ∧ Below w.heap.size w X
theorem CdP.step {w : World} {S T D n : Nat} {NI : List Nat} {F : Nat → Int} {TN : Int} {m : Nat} {A2 : Option Addr} {j : Nat} {X Y : World} (h : CdP w S T D n NI F TN m A2 j X) (hS : w.heap.size + 1 + 1 < S) (hT : S + 1 + 1 + 1 < T) (hD : T + 1 + 1 + 1 ≤ D) (hb : Below X.heap.size X Y) {I : Nat} (hI : NI[j]?.getD 0 = I) (hIn : I < n) :
    CdP w S T D n NI F TN m A2 (j + 1) ((Y.setCell ⟨w.heap.size + 1 + 1, I * 2, none⟩ (.int .i64 (lowN (F j) TN))).setCell ⟨w.heap.size + 1 + 1, I * 2 + 1, none⟩ (.int .i64 (lowD (F j) TN))) := by
  obtain ⟨h1, h2, h3, h4, h5, h6, h7⟩ := h
  have hD' : D < X.heap.size := (Array.getElem?_eq_some_iff.1 h6).1
  have hbs := hb.size
  refine ⟨?_, ?_, ?_, fun i hi => ?_, ?_, ?_, ?_⟩
  · refine (((h1.later hb).set (k := I * 2) (by rw [pcells_len, outK_len]; omega) _).set (k := I * 2 + 1) (by rw [List.length_set, pcells_len, outK_len]; omega) _).cast ?_
    rw [pcells_set2 _ _ _ _ (by rw [outK_len]; exact hIn)]
    show _ = pcells ((outK n NI F TN j).set (NI[j]?.getD 0) (lowN (F j) TN, lowD (F j) TN))
    rw [hI]
  · exact ((h2.later hb).other (by show w.heap.size + 1 + 1 ≠ S + 1 + 1 + 1; omega) _).other (by show w.heap.size + 1 + 1 ≠ S + 1 + 1 + 1; omega) _
  · exact ((h3.later hb).other (by show w.heap.size + 1 + 1 ≠ T + 1; omega) _).other (by show w.heap.size + 1 + 1 ≠ T + 1; omega) _
  · obtain ⟨g, g1, g2, g3, g4⟩ := h4 i hi
    refine ⟨g, g1, g2, g3, ?_⟩
    rw [World.cell?_setCell_other _ _ _ _ (fun he => by have := congrArg Addr.block he; simp at this; omega), World.cell?_setCell_other _ _ _ _ (fun he => by have := congrArg Addr.block he; simp at this; omega), hb.cell (p := ⟨g, i, none⟩) (by show g < _; omega)]
    exact g4
  · simpa using Nat.le_trans h5 hbs
  · rw [Below.heap_setCell _ _ _ _ (show D ≠ w.heap.size + 1 + 1 by omega), Below.heap_setCell _ _ _ _ (show D ≠ w.heap.size + 1 + 1 by omega), hb.block D hD']
    exact h6
  · exact ((below_step h7 hb).setCell (show w.heap.size ≤ w.heap.size + 1 + 1 by omega) _).setCell (show w.heap.size ≤ w.heap.size + 1 + 1 by omega) _
/-- Worlds that are later than w but for block g. -/
structure Oc (w : World) (g : Nat) where
  val : World
  h : w.grownBy val (some g)
instance ocSome (w : World) (g : Nat) : Nonempty (Oc w g) := ⟨⟨w, rfl, rfl, rfl, Nat.le_refl _, fun _ _ _ => rfl⟩⟩
theorem Oc.cell {w : World} {g : Nat} (x : Oc w g) (b o : Nat) (hb : b < w.heap.size) (hne : ¬ b = g) : x.val.cell? ⟨b, o, none⟩ = w.cell? ⟨b, o, none⟩ := by
  have := x.h.block b hb (fun e => hne (Option.some.inj e))
  simp [World.cell?, this]
theorem wp_region_oc {P : Program} {id : Nat} {Q : Exit → Act → World → Prop} {a : Act} {w : World} {l : List Oper} (g : Nat) (hm : P.follows .mixedOrders = true) (hg : noGuard l.toArray = true)
    (h : wpC P .any l.toArray (fun W => ∃ x : Oc w g, W = x.val) Q l.length (Array.replicate l.length false) a w.drew) : (Code.region id l.toArray true).wp P Q a w :=
  wp_region_any hm (wpC_any hg _ _ _ _ (by simpa using h))
theorem oc_set {w W : World} {g : Nat} (h : w.grownBy W (some g)) (o : Nat) (v : Value) : w.grownBy (W.setCell ⟨g, o, none⟩ v) (some g) :=
  ⟨h.os, h.tape, h.output, by simpa using h.size, fun k hk hne => (heap_setCell_other W ⟨g, o, none⟩ k v (fun e => hne (by simp [e]))).trans (h.block k hk hne)⟩
theorem oc_drew {w W : World} {g : Nat} (h : w.grownBy W (some g)) : w.grownBy W.drew (some g) := ⟨h.os, h.tape, h.output, h.size, h.block⟩
theorem oc_refl (w : World) (g : Nat) : w.grownBy w (some g) := ⟨rfl, rfl, rfl, Nat.le_refl _, fun _ _ _ => rfl⟩
theorem oc_below {w W W' : World} {g : Nat} (h : w.grownBy W (some g)) (hb : Below W.heap.size W W') : w.grownBy W' (some g) :=
  ⟨hb.os.trans h.os, hb.tape.trans h.tape, hb.output.trans h.output, Nat.le_trans h.size hb.size, fun k hk hne => (hb.block k (Nat.lt_of_lt_of_le hk h.size)).trans (h.block k hk hne)⟩
attribute [local go_sem] Oc.cell
def isPc (v : Value) (b : Nat) : Prop := v = .pointer (some ⟨b, 0, none⟩)
def curO (l : List Tp) (a b : Int) (i : Nat) : List (Int × Int) :=
  outK l.length (nearN (full l R0) (at6 (full l R0) a) l l.length) (fun i => flo (cls l a - 1 - 1) ((near l a).eraseIdx i) (tpA (near l a) i) a b) (treesN l a) i
end Go.Proofs.Ytloogollfconpaa
