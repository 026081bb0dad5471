/- Currents between two nodes. -/
import Derived.Test.YtpfhfmnlojigpaaCur1
import Derived.Test.YtpfhfmnlojigpaaMixR
import Derived.Sort.CutIn
import Derived.Deep.DeepCutAuto
set_option linter.unusedSimpArgs false
set_option linter.unusedVariables false
namespace Go.Proofs.Ytpfhfmnlojigpaa
open Go.RowKit Go.Shelf
attribute [local go_sem] Oper.semAt_some Same.cell Later.cell

theorem ca_six {W : World} {ub : Nat} (R : List Int) (h : CA W ub [.int .i64 0, .int .i64 0, .int .i64 0, .int .i64 0, .int .i64 0, .int .i64 0]) :
    CA ((((((W.setCell ⟨ub, 0, none⟩ (.int .i64 (num R 0))).setCell ⟨ub, 1, none⟩ (.int .i64 (num R 1))).setCell ⟨ub, 2, none⟩ (.int .i64 (num R 2))).setCell ⟨ub, 3, none⟩ (.int .i64 (num R 3))).setCell ⟨ub, 4, none⟩ (.int .i64 (num R 4))).setCell ⟨ub, 5, none⟩ (.int .i64 (num R 5))) ub
      [.int .i64 (num R 0), .int .i64 (num R 1), .int .i64 (num R 2), .int .i64 (num R 3), .int .i64 (num R 4), .int .i64 (num R 5)] :=
  ((((((h.set (k := 0) (by simp) _).set (k := 1) (by simp) _).set (k := 2) (by simp) _).set (k := 3) (by simp) _).set (k := 4) (by simp) _).set (k := 5) (by simp) _)
theorem ca_at6 {W : World} {ub : Nat} {R : List Int} (h : CA W ub [.int .i64 (num R 0), .int .i64 (num R 1), .int .i64 (num R 2), .int .i64 (num R 3), .int .i64 (num R 4), .int .i64 (num R 5)]) {x : Int} (hx : nod x) : W.cell? ⟨ub, x.toNat, none⟩ = some (.int .i64 (at6 R x)) := by
  refine (h.2 x.toNat _ ?_).1
  rw [← num_at6']
  have hx0 := hx.1
  have hx1 := hx.2
  have : x.toNat = 0 ∨ x.toNat = 1 ∨ x.toNat = 2 ∨ x.toNat = 3 ∨ x.toNat = 4 ∨ x.toNat = 5 := by omega
  rcases this with e | e | e | e | e | e <;> rw [e] <;> rfl
/-- What stands at the head of the inner loop. -/
def FlR (W0 W : World) (S T m : Nat) (fl : List Value) (Tt : Int) (Wr : World) : Prop :=
  (((CA Wr (T + 1) [.int .i64 Tt] ∧ CA Wr (S + 1 + 1 + 1) fl) ∧ CA Wr T [.slice (some ⟨S + 1 + 1 + 1, 0, none⟩) m m]) ∧ Below (S + 1 + 1 + 1) W0 Wr) ∧ KeepsFrom W0.heap.size W Wr ∧ KeepB (S + 1 + 1 + 1) (T + 1 + 1) W Wr
theorem FlR.later {W0 W : World} {S T m : Nat} {fl : List Value} {Tt : Int} {Wr Wq : World} (h : FlR W0 W S T m fl Tt Wr) (hb : Below Wr.heap.size Wr Wq) (h1 : S + 1 + 1 + 1 ≤ Wr.heap.size) (h2 : T + 1 + 1 < Wr.heap.size) : FlR W0 W S T m fl Tt Wq := by
  obtain ⟨⟨⟨⟨g1, g2⟩, g3⟩, g4⟩, g5, g6⟩ := h
  exact ⟨⟨⟨⟨g1.later hb, g2.later hb⟩, g3.later hb⟩, g4.trans (hb.mono h1)⟩, g5.trans (keepsFrom_of_below hb), g6.t (KeepB.of_below hb h1 h2)⟩
theorem FlR.store {W0 W : World} {S T m : Nat} {fl : List Value} {Tt : Int} {Wr : World} (h : FlR W0 W S T m fl Tt Wr) (hT : S + 1 + 1 + 1 < T) {j : Nat} (hj : j < fl.length) (v : Value) : FlR W0 W S T m (fl.set j v) Tt (Wr.setCell ⟨S + 1 + 1 + 1, j, none⟩ v) := by
  obtain ⟨⟨⟨⟨g1, g2⟩, g3⟩, g4⟩, g5, g6⟩ := h
  refine ⟨⟨⟨⟨g1.other (by show S + 1 + 1 + 1 ≠ T + 1; omega) _, g2.set hj _⟩, g3.other (by show S + 1 + 1 + 1 ≠ T; omega) _⟩, g4.setCell (Nat.le_refl _) _⟩, g5.trans ((KeepsOthers.setCell _ _ _).from _), g6.set (Nat.le_refl _) (by show S + 1 + 1 + 1 ≠ T + 1 + 1; omega) _⟩
/-- The result of currents between two nodes of one class. -/
def nearN (R : List Int) (c : Int) (l : List Tp) (k : Nat) : List Nat := (List.range k).filter fun i => at6 R (tpA l i).1 == c
theorem nearI_N (R : List Int) (c : Int) (l : List Tp) (k : Nat) : nearI R c l k = (nearN R c l k).map fun i : Nat => (i : Int) := rfl
theorem nearN_lt {R : List Int} {c : Int} {l : List Tp} {k i : Nat} (h : i < (nearN R c l k).length) : (nearN R c l k)[i]?.getD 0 < k := by
  rw [List.getElem?_eq_getElem h]
  have := List.getElem_mem h
  unfold nearN at this
  exact List.mem_range.1 (List.mem_filter.1 this).1
theorem nearN_len (R : List Int) (c : Int) (l : List Tp) : ∀ k, k ≤ l.length → (nearN R c l k).length = (nearK R c l k).length := by
  intro k
  induction k with
  | zero => intro _; rfl
  | succ k ih =>
    intro hk
    have h1 := ih (by omega)
    have e1 : (nearI R c l (k + 1)).length = (nearN R c l (k + 1)).length := by rw [nearI_N, List.length_map]
    have e2 : (nearI R c l k).length = (nearN R c l k).length := by rw [nearI_N, List.length_map]
    by_cases h : at6 R (tpA l k).1 = c
    · obtain ⟨q1, q2⟩ := nearK_yes (R := R) (c := c) (k := k) (by omega) h
      rw [← e1, q1, q2, List.length_append, List.length_append, e2, h1]; rfl
    · obtain ⟨q1, q2⟩ := nearK_no (R := R) (c := c) (k := k) (by omega) h
      rw [← e1, q1, q2, e2, h1]
/-- What stands at the head of the last loop. -/
def CdP (w : World) (S T D n : Nat) (NI : List Nat) (F : Nat → Int) (TN : Int) (m : Nat) (A2 : Option Addr) (j : Nat) (X : World) : Prop :=
  CA X (w.heap.size + 1 + 1) (pcells (outK n NI F TN j)) ∧ CA X (S + 1 + 1 + 1) ((List.range m).map fun i => .int .i64 (F i)) ∧ CA X (T + 1) [.int .i64 TN] ∧
  (∀ i, i < m → ∃ g, A2 = some ⟨g, 0, none⟩ ∧ w.heap.size + 1 + 1 < g ∧ g < S ∧ X.cell? ⟨g, i, none⟩ = some (.int .i64 ((NI[i]?.getD 0 : Nat) : Int))) ∧ T + 1 + 1 + 1 ≤ X.heap.size ∧ X.heap[D]? = some (.deferred (some [])) ∧ Below w.heap.size w X
theorem CdP.step {w : World} {S T D n : Nat} {NI : List Nat} {F : Nat → Int} {TN : Int} {m : Nat} {A2 : Option Addr} {j : Nat} {X Y : World} (h : CdP w S T D n NI F TN m A2 j X) (hS : w.heap.size + 1 + 1 < S) (hT : S + 1 + 1 + 1 < T) (hD : T + 1 + 1 + 1 ≤ D) (hb : Below X.heap.size X Y) {I : Nat} (hI : NI[j]?.getD 0 = I) (hIn : I < n) :
    CdP w S T D n NI F TN m A2 (j + 1) ((Y.setCell ⟨w.heap.size + 1 + 1, I * 2, none⟩ (.int .i64 (lowN (F j) TN))).setCell ⟨w.heap.size + 1 + 1, I * 2 + 1, none⟩ (.int .i64 (lowD (F j) TN))) := by
  obtain ⟨h1, h2, h3, h4, h5, h6, h7⟩ := h
  have hD' : D < X.heap.size := (Array.getElem?_eq_some_iff.1 h6).1
  have hbs := hb.size
  refine ⟨?_, ?_, ?_, fun i hi => ?_, ?_, ?_, ?_⟩
  · refine (((h1.later hb).set (k := I * 2) (by rw [pcells_len, outK_len]; omega) _).set (k := I * 2 + 1) (by rw [List.length_set, pcells_len, outK_len]; omega) _).cast ?_
    rw [pcells_set2 _ _ _ _ (by rw [outK_len]; exact hIn)]
    show _ = pcells ((outK n NI F TN j).set (NI[j]?.getD 0) (lowN (F j) TN, lowD (F j) TN))
    rw [hI]
  · exact ((h2.later hb).other (by show w.heap.size + 1 + 1 ≠ S + 1 + 1 + 1; omega) _).other (by show w.heap.size + 1 + 1 ≠ S + 1 + 1 + 1; omega) _
  · exact ((h3.later hb).other (by show w.heap.size + 1 + 1 ≠ T + 1; omega) _).other (by show w.heap.size + 1 + 1 ≠ T + 1; omega) _
  · obtain ⟨g, g1, g2, g3, g4⟩ := h4 i hi
    refine ⟨g, g1, g2, g3, ?_⟩
    rw [World.cell?_setCell_other _ _ _ _ (fun he => by have := congrArg Addr.block he; simp at this; omega), World.cell?_setCell_other _ _ _ _ (fun he => by have := congrArg Addr.block he; simp at this; omega), hb.cell (p := ⟨g, i, none⟩) (by show g < _; omega)]
    exact g4
  · simpa using Nat.le_trans h5 hbs
  · rw [Below.heap_setCell _ _ _ _ (show D ≠ w.heap.size + 1 + 1 by omega), Below.heap_setCell _ _ _ _ (show D ≠ w.heap.size + 1 + 1 by omega), hb.block D hD']
    exact h6
  · exact ((below_step h7 hb).setCell (show w.heap.size ≤ w.heap.size + 1 + 1 by omega) _).setCell (show w.heap.size ≤ w.heap.size + 1 + 1 by omega) _
/-- Worlds that are later than w but for block g. -/
structure Oc (w : World) (g : Nat) where
  val : World
  h : w.grownBy val (some g)
instance ocSome (w : World) (g : Nat) : Nonempty (Oc w g) := ⟨⟨w, rfl, rfl, rfl, Nat.le_refl _, fun _ _ _ => rfl⟩⟩
theorem Oc.cell {w : World} {g : Nat} (x : Oc w g) (b o : Nat) (hb : b < w.heap.size) (hne : ¬ b = g) : x.val.cell? ⟨b, o, none⟩ = w.cell? ⟨b, o, none⟩ := by
  have := x.h.block b hb (fun e => hne (Option.some.inj e))
  simp [World.cell?, this]
theorem wp_region_oc {P : Program} {id : Nat} {Q : Exit → Act → World → Prop} {a : Act} {w : World} {l : List Oper} (g : Nat) (hm : P.follows .mixedOrders = true) (hg : noGuard l.toArray = true)
    (h : wpC P .any l.toArray (fun W => ∃ x : Oc w g, W = x.val) Q l.length (Array.replicate l.length false) a w.drew) : (Code.region id l.toArray true).wp P Q a w :=
  wp_region_any hm (wpC_any hg _ _ _ _ (by simpa using h))
theorem oc_set {w W : World} {g : Nat} (h : w.grownBy W (some g)) (o : Nat) (v : Value) : w.grownBy (W.setCell ⟨g, o, none⟩ v) (some g) :=
  ⟨h.os, h.tape, h.output, by simpa using h.size, fun k hk hne => (heap_setCell_other W ⟨g, o, none⟩ k v (fun e => hne (by simp [e]))).trans (h.block k hk hne)⟩
theorem oc_drew {w W : World} {g : Nat} (h : w.grownBy W (some g)) : w.grownBy W.drew (some g) := ⟨h.os, h.tape, h.output, h.size, h.block⟩
theorem oc_refl (w : World) (g : Nat) : w.grownBy w (some g) := ⟨rfl, rfl, rfl, Nat.le_refl _, fun _ _ _ => rfl⟩
theorem oc_below {w W W' : World} {g : Nat} (h : w.grownBy W (some g)) (hb : Below W.heap.size W W') : w.grownBy W' (some g) :=
  ⟨hb.os.trans h.os, hb.tape.trans h.tape, hb.output.trans h.output, Nat.le_trans h.size hb.size, fun k hk hne => (hb.block k (Nat.lt_of_lt_of_le hk h.size)).trans (h.block k hk hne)⟩
attribute [local go_sem] Oc.cell
def isPc (v : Value) (b : Nat) : Prop := v = .pointer (some ⟨b, 0, none⟩)
def curO (l : List Tp) (a b : Int) (i : Nat) : List (Int × Int) :=
  outK l.length (nearN (full l R0) (at6 (full l R0) a) l l.length) (fun i => flo (cls l a - 1 - 1) ((near l a).eraseIdx i) (tpA (near l a) i) a b) (treesN l a) i
set_option maxRecDepth 100000 in
set_option maxHeartbeats 16000000 in
theorem currents_two (A : Option Addr) (len cap : Nat) (l : List Tp) (a b : Int) (w : World) (hm : len ≤ 10) (ha : nod a) (hb : nod b) (hl : okL l) (hx : Rows 3 int3 (0,0,0) w w.heap.size A len l) (hab : a ≠ b) (hk2 : 2 ≤ cls l a) :
    Calls Try.prog 35 #[.slice A len cap, .int .i64 a, .int .i64 b] w fun e w' => (∃ g, e = .returned (.slice (some ⟨g, 0, none⟩) len len) ∧ w.heap.size ≤ g ∧ CA w' g (pcells (curO l a b (near l a).length))) ∧ Below w.heap.size w w' := by
  have hab' : (a == b) = false := by simpa using hab
  have hll : l.length = len := hx.1
  have c1 := fun W (h : Below w.heap.size w W) => near_any A len cap l a W hm ha ((hx.below h).more h.size) hl
  have hfu : (jk l (2 ^ len - 1) len).1 = full l R0 := by rw [← hx.1]; exact jk_full
  rw [hfu] at c1
  have hnk : nearK (full l R0) (at6 (full l R0) a) l len = near l a := by unfold nearK near; rw [List.take_of_length_le (by omega)]
  have hcl : (cntK (full l R0) (at6 (full l R0) a) 6 : Int) - 1 = ((cls l a - 1 : Nat) : Int) := by
    rw [cntK_six]
    show ((cls l a : Nat) : Int) - 1 = _
    omega
  have hnl := nearN_len (full l R0) (at6 (full l R0) a) l len (by omega)
  have hnlt := fun i (h : i < (nearN (full l R0) (at6 (full l R0) a) l len).length) => nearN_lt h
  rw [hnk] at hnl
  rw [hnk, hcl, nearI_N] at c1
  simp only [List.length_map] at c1
  have hout : curO l a b = outK l.length (nearN (full l R0) (at6 (full l R0) a) l l.length) (fun i => flo (cls l a - 1 - 1) ((near l a).eraseIdx i) (tpA (near l a) i) a b) (treesN l a) := rfl
  rw [hll] at hout
  have hcl6 := cnt6_le (fun x => at6 (full l R0) x = at6 (full l R0) a)
  change cls l a ≤ 6 at hcl6
  have hok := near_ok hl a
  have hpl := near_len l a
  have ht1 := trees_pos hl ha
  have ht2 := trees_bd hl (by omega) a
  have hT : sumL yes (cls l a - 1) (near l a) R0 = treesN l a := rfl
  have hfb := fun i (h : i < (near l a).length) => flow_bd (k := cls l a - 1 - 1) hok h a b
  have ek : cls l a - 1 - 1 + 1 = cls l a - 1 := by omega
  rw [ek] at hfb
  have hfb' : ∀ i, i < (near l a).length → -713342911662882601 ≤ flo (cls l a - 1 - 1) ((near l a).eraseIdx i) (tpA (near l a) i) a b ∧ flo (cls l a - 1 - 1) ((near l a).eraseIdx i) (tpA (near l a) i) a b ≤ 713342911662882601 := fun i h => by
    have h1 := hfb i h
    have h2 : sumL tt (cls l a - 1) (near l a) R0 = treesN l a := rfl
    omega
  have hfd := flV_done hok (by omega) (cls l a - 1 - 1) a b
  rw [ek] at hfd
  have hsd := (sums_done hok (by omega) (cls l a - 1) a b).1
  rw [hT] at hsd
  generalize nearN (full l R0) (at6 (full l R0) a) l len = NI at *
  clear hfb hT hcl hnk hfu
  generalize near l a = P at *
  obtain ⟨k, hk⟩ : ∃ k, k = cls l a - 1 - 1 := ⟨_, rfl⟩
  rw [← hk] at hout hfb' hfd ek
  generalize hk1 : cls l a - 1 = k1 at *
  generalize treesN l a = TN at *
  generalize curO l a b = CO at *
  obtain ⟨m, hmP⟩ : ∃ m, m = P.length := ⟨_, rfl⟩
  rw [← hmP] at hnl hpl hfb' hfd hsd c1 ⊢
  have hm10 : m ≤ 10 := by omega
  have hpw : 1 ≤ 2 ^ m ∧ 2 ^ m ≤ 1024 := ⟨Nat.pow_pos (by decide), Nat.pow_le_pow_right (by decide) hm10⟩
  have c2 := fun A1 cap1 W => whole_any A1 m cap1 W hm10
  obtain ⟨i0, hi, hz0, hz1, hz2⟩ := info_parts info_ratio
  have hI0 := Lib.hid hi
  have hI1 := Lib.hid hz0
  have hI2 := Lib.hid hz1
  have hI3 := Lib.hid hz2
  obtain ⟨j0, hj, hy0, hy1, hy2⟩ := info_parts tinfo_int
  have hJ0 := Lib.hid hj
  have hJ1 := Lib.hid hy0
  have hJ2 := Lib.hid hy1
  have hJ3 := Lib.hid hy2
  have C1 := Lib.hid c1
  have C2 := Lib.hid c2
  have HO := Lib.hid hout
  have HFD := Lib.hid hfd
  have HSD := Lib.hid hsd
  have HFB := Lib.hid hfb'
  have HNL := Lib.hid hnlt
  have HMP := Lib.hid hmP
  have HOK := Lib.hid hok
  clear hi hz0 hz1 hz2 hj hy0 hy1 hy2 c1 c2 hx hl hout hfd hsd hfb' hnlt hok hmP hll hab
  refine (callsIn_wide (n := 9)).1 ?_
  refine callsIn_of_wp_marks Try.func35 rfl trivial ?_ rfl
  simp only [Try.ntmps35, List.size_toArray, List.length_cons, List.length_nil, Nat.reduceAdd, Nat.reduceSub, Array.replicate_succ, Array.replicate_zero, List.push_toArray, List.append_toArray, List.nil_append, List.cons_append]
  refine wpIn_wide.2 ?_
  go_wp2_with (at_make; refine wpList_make_full _ rfl _ _ 32 rfl (w.heap.size + 1 + 1) 28 i0 (.agg #[.int .i64 0, .int .i64 0]) 2 Try.underlying32 hI0.out hI1.out hI2.out _ _ _ _ len rfl rfl (by omega) (by omega) (by rw [hI3.out]; omega) (by unfold maxLen; omega) (by simp) ?_; intro w1 hown hgrow; go_frame)
  have hgb : Below (w.heap.size + 1 + 1) ((w.alloc (.cells #[.int .i64 a] 3)).alloc (.cells #[.int .i64 b] 3)) w1 := grown_below hgrow (by simp) (fun k hk => by cases hk)
  have hb1 : Below w.heap.size w w1 := (((Below.refl _ w).alloc (Nat.le_refl _) _).alloc (by simp) _).trans (hgb.mono (by omega))
  have hca : w1.cell? ⟨w.heap.size, 0, none⟩ = some (.int .i64 a) := (hgb.cell (p := ⟨w.heap.size, 0, none⟩) (show w.heap.size < w.heap.size + 1 + 1 by omega)).trans (by go_simp)
  have hcb : w1.cell? ⟨w.heap.size + 1, 0, none⟩ = some (.int .i64 b) := (hgb.cell (p := ⟨w.heap.size + 1, 0, none⟩) (show w.heap.size + 1 < w.heap.size + 1 + 1 by omega)).trans (by go_simp)
  simp only [World.size_alloc] at hown
  have hC := CA.own hown
  rw [made2, ← onesK_zero] at hC
  have HC := Lib.hid hC
  clear hown hgrow hgb hC
  simp only [World.size_alloc]
  go_wp2
  go_loopw [28] (fun i W => OutR w w1 len i W) (fun i _ => len - (intOf i).toNat)
  case atStart => exact ⟨0, Nat.zero_le _, rfl, HC.out, Below.refl _ _⟩
  case round =>
    obtain ⟨k', hk', rfl, hC, hB⟩ := hrel
    by_cases hlt : k' < len
    · obtain ⟨g1, g2⟩ := hC.2 (k' * 2 + 1) _ (pcells_get (onesK len k') k' (by rw [onesK_len]; exact hlt)).2
      have hst := OutR.store hlt hC hB
      have HS := Lib.hid hst
      have hk1 : (k' : Int) < len := by omega
      clear hC hst
      go_wp2
      go_roundw
      case rel => exact ⟨k' + 1, by omega, by go_num, HS.out⟩
      case measure => simp [intOf]; omega
    · have hkn : len = k' := by omega
      subst hkn
      have ha2 := (hB.cell (p := ⟨w.heap.size, 0, none⟩) (show w.heap.size < w.heap.size + 1 + 1 by omega)).trans hca
      have hb2 := (hB.cell (p := ⟨w.heap.size + 1, 0, none⟩) (show w.heap.size + 1 < w.heap.size + 1 + 1 by omega)).trans hcb
      rw [onesK_full] at hC
      have hBB := hb1.trans (hB.mono (by omega))
      have HC2 := Lib.hid hC
      clear hC HC hca hcb hb1 hB
      obtain ⟨w1', hw1'⟩ : ∃ q, q = wr := ⟨_, rfl⟩
      rw [← hw1'] at ha2 hb2 hBB HC2 ⊢
      clear hw1'
      go_wp2_with fail
      refine (C1.out _ hBB).mono ?_
      rintro e w2 ⟨⟨v, u, rfl, ho1, ho2⟩, hb5⟩
      obtain ⟨A1, cap1, rfl, hn1, hn2, hP, -⟩ := own_tapes ho1
      obtain ⟨A2, cap2, rfl, hn3, hn4, hQ, hQ2⟩ := own_ints ho2
      have ha3 := (hb5.cell (p := ⟨w.heap.size, 0, none⟩) (show w.heap.size < w1'.heap.size by have := HC2.out.1; omega)).trans ha2
      have hb3 := (hb5.cell (p := ⟨w.heap.size + 1, 0, none⟩) (show w.heap.size + 1 < w1'.heap.size by have := HC2.out.1; omega)).trans hb2
      have HC3 := Lib.hid (HC2.out.later hb5)
      have HC2s := HC2.out.1
      have hB2 : Below w.heap.size w w2 := below_step hBB hb5
      have hs2 : w.heap.size + 1 + 1 < w2.heap.size := HC3.out.1
      have HP := Lib.hid hP
      have HQ := Lib.hid (And.intro hQ hQ2)
      unfold maxLen at hn2 hn4
      clear ho1 ho2 hP hQ hQ2 ha2 hb2 hBB HC2 hb5
      go_wp2_with (first | (go_at_call 40; refine (C2.out _ _ _).mono ?_; rintro e w' ⟨rfl, rfl⟩) | (at_make; refine wpList_make_full _ rfl _ _ 40 rfl (w2.heap.size + 1 + 1 + 1) 3 j0 (.int .i64 0) 1 Try.underlying40 hJ0.out hJ1.out hJ2.out _ _ _ _ m rfl rfl (by omega) (by omega) (by rw [hJ3.out]; omega) (by unfold maxLen; omega) (by simp) ?_; intro w3 hown3 hgrow3; have hgb3 : Below (w2.heap.size + 1 + 1 + 1) (((w2.alloc (.cells #[.slice A1 m cap1] 22)).alloc (.cells #[.int .i64 (k1 : Int)] 3)).alloc (.cells #[.int .i64 ((2 ^ m - 1 : Nat) : Int)] 3)) w3 := grown_below hgrow3 (by simp) (fun k hk => by cases hk); have hq9' : w3.cell? ⟨w2.heap.size, 0, none⟩ = some (.slice A1 m cap1) := (hgb3.cell (p := ⟨w2.heap.size, 0, none⟩) (show w2.heap.size < w2.heap.size + 1 + 1 + 1 by omega)).trans (by go_simp); have hz9 : w2.heap.size + 1 + 1 + 1 ≤ w3.heap.size := (by have h := hgb3.size; simp at h; omega); have hn90 : ¬ w2.heap.size = w3.heap.size := (by omega); have hn91 : ¬ w2.heap.size = w3.heap.size + 1 := (by omega); have hm90 : ¬ w3.heap.size = w2.heap.size := (by omega); have hm91 : ¬ w3.heap.size + 1 = w2.heap.size := (by omega); have hs90 : w2.heap.size < w3.heap.size := (by omega); have hl90 : w2.heap.size ≤ w3.heap.size := (by omega); have hl91 : w2.heap.size ≤ w3.heap.size + 1 := (by omega); go_frame) | (go_at_call 54; refine (forests_any _ _ _ _ _).mono ?_; rintro e w' ⟨rfl, rfl⟩))
      simp only [World.size_alloc] at hown3
      have hF0 := CA.own hown3
      rw [Nat.mul_one, show (Value.int .i64 0).cells = #[.int .i64 0] from rfl, toList_madeCells_one] at hF0
      have hzf : List.replicate m (Value.int .i64 0) = flV P m k1 a b [] := by
        unfold flV
        apply List.ext_getElem?
        intro i
        by_cases hi : i < m <;> simp [hi, sumW]
      rw [hzf] at hF0
      have hT3 : w2.heap.size + 1 + 1 + 1 < w3.heap.size := hF0.1
      obtain ⟨W0, hW0⟩ : ∃ W0, ((w3.alloc (.cells #[.slice (some ⟨w2.heap.size + 1 + 1 + 1, 0, none⟩) m m] 40)).alloc (.cells #[.int .i64 0] 3)).alloc (.cells #[.slice A1 m cap1] 22) = W0 := ⟨_, rfl⟩
      have hsz : W0.heap.size = w3.heap.size + 1 + 1 + 1 := by rw [← hW0]; simp
      have hB30 : Below w3.heap.size w3 W0 := by rw [← hW0]; exact (((Below.refl _ w3).alloc (Nat.le_refl _) _).alloc (by simp) _).alloc (by simp; omega) _
      have hF : CA W0 (w2.heap.size + 1 + 1 + 1) (flV P m k1 a b []) := hF0.later hB30
      have hbx0 : CA W0 w3.heap.size [.slice (some ⟨w2.heap.size + 1 + 1 + 1, 0, none⟩) m m] := by
        rw [← hW0]
        exact (((CA.new w3 [.slice (some ⟨w2.heap.size + 1 + 1 + 1, 0, none⟩) m m] 40).alloc _).alloc _)
      have hbx1 : CA W0 (w3.heap.size + 1) [.int .i64 (sumW (fT P m k1) [])] := by
        rw [← hW0]
        have h := (CA.new (w3.alloc (.cells #[.slice (some ⟨w2.heap.size + 1 + 1 + 1, 0, none⟩) m m] 40)) [.int .i64 0] 3).alloc (.cells #[.slice A1 m cap1] 22)
        rw [World.size_alloc] at h
        exact h
      have hbx2 : Boxed W0 (w3.heap.size + 1 + 1) 22 (.slice A1 m cap1) := by
        rw [← hW0]
        have h := Boxed.new ((w3.alloc (.cells #[.slice (some ⟨w2.heap.size + 1 + 1 + 1, 0, none⟩) m m] 40)).alloc (.cells #[.int .i64 0] 3)) 22 (.slice A1 m cap1)
        simp only [World.size_alloc] at h
        exact h
      have hB3 : Below w2.heap.size w2 W0 := ((((Below.refl _ w2).alloc (Nat.le_refl _) _).alloc (by simp) _).alloc (by simp; omega) _).trans ((hgb3.mono (by omega)).trans (hB30.mono (by omega)))
      have hB4 : Below (w2.heap.size + 1 + 1 + 1) (((w2.alloc (.cells #[.slice A1 m cap1] 22)).alloc (.cells #[.int .i64 (k1 : Int)] 3)).alloc (.cells #[.int .i64 ((2 ^ m - 1 : Nat) : Int)] 3)) W0 := hgb3.trans (hB30.mono (by omega))
      have hq9 : W0.cell? ⟨w2.heap.size, 0, none⟩ = some (.slice A1 m cap1) := (hB4.cell (p := ⟨w2.heap.size, 0, none⟩) (show w2.heap.size < w2.heap.size + 1 + 1 + 1 by omega)).trans (by go_simp)
      have hq11 : W0.cell? ⟨w2.heap.size + 1, 0, none⟩ = some (.int .i64 (k1 : Int)) := (hB4.cell (p := ⟨w2.heap.size + 1, 0, none⟩) (show w2.heap.size + 1 < w2.heap.size + 1 + 1 + 1 by omega)).trans (by go_simp)
      have hq12 : W0.cell? ⟨w2.heap.size + 1 + 1, 0, none⟩ = some (.int .i64 ((2 ^ m - 1 : Nat) : Int)) := (hB4.cell (p := ⟨w2.heap.size + 1 + 1, 0, none⟩) (show w2.heap.size + 1 + 1 < w2.heap.size + 1 + 1 + 1 by omega)).trans (by go_simp)
      have hqa := (hB3.cell (p := ⟨w.heap.size, 0, none⟩) (show w.heap.size < w2.heap.size by omega)).trans ha3
      have hqb := (hB3.cell (p := ⟨w.heap.size + 1, 0, none⟩) (show w.heap.size + 1 < w2.heap.size by omega)).trans hb3
      have HCO := Lib.hid (HC3.out.later hB3)
      have HX0 := Lib.hid (HP.out.below hB3)
      have HI0 : Hid (∀ X, Below (w2.heap.size + 1 + 1 + 1) W0 X → ∀ i, i < m → ∃ g, A2 = some ⟨g, 0, none⟩ ∧ w.heap.size + 1 + 1 < g ∧ g < w2.heap.size ∧ X.cell? ⟨g, i, none⟩ = some (.int .i64 ((NI[i]?.getD 0 : Nat) : Int))) := Lib.hid (fun X hX i hi => by
        obtain ⟨g, h1, h2, h3, -⟩ := HQ.out.2 (by omega)
        obtain ⟨b', off', h4, h5, h6⟩ := HQ.out.1.at_ i (by omega)
        rw [h1] at h4
        cases h4
        refine ⟨g, h1, by have := HC2s; omega, h3, ?_⟩
        rw [hX.cell (p := ⟨g, i, none⟩) (by show g < _; omega), hB3.cell (p := ⟨g, i, none⟩) h3]
        rw [Nat.zero_add] at h6
        rw [h6]
        congr 2
        have hi2 : i < NI.length := by omega
        simp [hi2])
      have hB0 : Below w.heap.size w W0 := below_step hB2 hB3
      have HFX : Hid (∀ X, Below (w2.heap.size + 1 + 1 + 1) W0 X → X.cell? ⟨w2.heap.size, 0, none⟩ = some (.slice A1 m cap1) ∧ X.cell? ⟨w2.heap.size + 1, 0, none⟩ = some (.int .i64 (k1 : Int)) ∧ X.cell? ⟨w2.heap.size + 1 + 1, 0, none⟩ = some (.int .i64 ((2 ^ m - 1 : Nat) : Int)) ∧ X.cell? ⟨w.heap.size, 0, none⟩ = some (.int .i64 a) ∧ X.cell? ⟨w.heap.size + 1, 0, none⟩ = some (.int .i64 b)) := Lib.hid (fun X hX =>
        ⟨(hX.cell (p := ⟨w2.heap.size, 0, none⟩) (show w2.heap.size < w2.heap.size + 1 + 1 + 1 by omega)).trans hq9, (hX.cell (p := ⟨w2.heap.size + 1, 0, none⟩) (show w2.heap.size + 1 < w2.heap.size + 1 + 1 + 1 by omega)).trans hq11, (hX.cell (p := ⟨w2.heap.size + 1 + 1, 0, none⟩) (show w2.heap.size + 1 + 1 < w2.heap.size + 1 + 1 + 1 by omega)).trans hq12, (hX.cell (p := ⟨w.heap.size, 0, none⟩) (show w.heap.size < w2.heap.size + 1 + 1 + 1 by omega)).trans hqa, (hX.cell (p := ⟨w.heap.size + 1, 0, none⟩) (show w.heap.size + 1 < w2.heap.size + 1 + 1 + 1 by omega)).trans hqb⟩)
      have hX3 : Rows 3 int3 (0,0,0) W0 (w2.heap.size + 1 + 1 + 1) A1 m P := HX0.out.more (by omega)
      have HX3 := Lib.hid hX3
      rw [hW0]
      clear hW0 hown3 hgrow3 hgb3 hF0 hzf hB30 hB4 hq9 hq11 hq12 hqa hqb ha3 hb3 HC3 HP HQ hB2
      refine (wpIn_wide (n := 9)).1 ?_
      refine wpIn_rangeFunc_ownG_of_H rfl (by omega) (gf := 71) (lb := #[.pointer (some ⟨w3.heap.size + 1 + 1, 0, none⟩)]) rfl trivial (enters_of Try.func71 (by kernel_rfl) rfl)
        (forests_stops 8 (by omega) (w3.heap.size + 1 + 1) (w2.heap.size + 1 + 1 + 1) A1 m cap1 P hm10 HOK.out W0 (by omega) (by omega) hbx2.cell hX3) KeepB.t (KeepB.b (by omega) (by omega)) (Below.refl _ _) (fun _ => rfl)
        (fun pre W => ((CA W (w3.heap.size + 1) [.int .i64 (sumW (fT P m k1) pre)] ∧ CA W (w2.heap.size + 1 + 1 + 1) (flV P m k1 a b pre)) ∧ CA W w3.heap.size [.slice (some ⟨w2.heap.size + 1 + 1 + 1, 0, none⟩) m m]) ∧ Below (w2.heap.size + 1 + 1 + 1) W0 W)
        (fun _ _ _ => False)
        (OwnFrom.and (OwnFrom.and (OwnFrom.and (Own.from (ca_own _ (fun pre => [.int .i64 (sumW (fT P m k1) pre)])) _) (Own.from (ca_own _ (fun pre => flV P m k1 a b pre)) _)) (Own.from (ca_own _ (fun _ => [.slice (some ⟨w2.heap.size + 1 + 1 + 1, 0, none⟩) m m])) _)) (ownFrom_below (by omega) (by omega)))
        (fun _ _ _ _ _ hs _ _ => hs)
        ⟨⟨⟨hbx1, hF⟩, hbx0⟩, Below.refl _ _⟩
        ?act ?assign ?body ?done ?stop (fun _ => ⟨Below.refl _ _, rfl⟩)
      case assign =>
        intro yl z W K hK
        unfold encF arrV
        gi_wp2
        exact hK
      case body =>
        rintro yl pre z W ⟨⟨⟨hT, hU⟩, hN⟩, hB⟩ hlt
        have hmp := HMP.out
        have hsl : z % 2 ^ m < 2 ^ m := Nat.mod_lt _ (by omega)
        have hzs : (z : Int) % 2 ^ m = ((z % 2 ^ m : Nat) : Int) := by rw [Int.natCast_emod, Int.natCast_pow]; rfl
        have hT1 := fun h => fT_yes (l := P) (k := k1) (z := z) (by omega) h
        have hT0 := fun h => fT_no (l := P) (k := k1) (z := z) (by omega) h
        have hF0 := fun j h => fCu_no (l := P) (k := k1) (a := a) (b := b) (j := j) (z := z) (by omega) h
        have hFx := fun j h => fCu_off (l := P) (k := k1) (a := a) (b := b) (j := j) (z := z) h
        have hF1 := fun j h h2 => fCu_on (l := P) (k := k1) (a := a) (b := b) (j := j) (z := z) (by omega) h h2
        rw [← hmp] at hT1 hT0 hF0 hFx hF1
        have hT2 := fun h => sumW_yes (f := fT P m k1) (x := z) pre h
        have hT3 := fun h => sumW_no (f := fT P m k1) (x := z) pre h
        have hV0 := fun h => flV_no (l := P) (m := m) (k := k1) (a := a) (b := b) (pre := pre) (z := z) h
        have hM0 := flM_zero P m k1 a b pre z
        have hMA := flM_all P m k1 a b pre z
        have hML := fun j => flM_len P m k1 a b pre z j
        have hMG := fun j h => flM_get (l := P) (m := m) (k := k1) (a := a) (b := b) (pre := pre) (z := z) (j := j) h
        have hMY := fun j h => flM_yes (l := P) (m := m) (k := k1) (a := a) (b := b) (pre := pre) (z := z) (j := j) h
        have hMN := fun j h => flM_no (l := P) (m := m) (k := k1) (a := a) (b := b) (pre := pre) (z := z) (j := j) h
        have hSY := fun j h => sumW_yes (f := fCu P m k1 a b j) (x := z) pre h
        have hand := andNot_eq hm10 hsl
        have hwp := (wgt_bd HOK.out (2 ^ m - 1 - z % 2 ^ m)).1
        have hws : 2 ^ m - 1 - z % 2 ^ m < 1024 := by omega
        have cO := fun W => ones_any (z % 2 ^ m) W (by omega)
        have hXr : ∀ X, Below (w2.heap.size + 1 + 1 + 1) W0 X → Rows 3 int3 (0,0,0) X (w2.heap.size + 1 + 1 + 1) A1 m P := fun X hX => HX3.out.below hX
        have cW := fun X (hX : Below (w2.heap.size + 1 + 1 + 1) W0 X) => weight_any A1 m cap1 P (2 ^ m - 1 - z % 2 ^ m) X hm10 hws ((hXr X hX).more (by have := hX.size; omega)) HOK.out
        have cJ := fun s X (hs : s < 1024) (hX : Below (w2.heap.size + 1 + 1 + 1) W0 X) => joined_any A1 m cap1 P s X hm10 hs ((hXr X hX).more (by have := hX.size; omega)) HOK.out
        have hs1024 : z % 2 ^ m < 1024 := by omega
        rw [hzs]
        generalize wgt P (2 ^ m - 1 - z % 2 ^ m) = G at *
        generalize 2 ^ m - 1 - z % 2 ^ m = s2 at *
        generalize pcf 10 (z % 2 ^ m) = pc at *
        generalize z % 2 ^ m = s at *
        have hW : Below w.heap.size w W := hB0.trans (hB.mono (by omega))
        obtain ⟨p9, p11, p12, pa, pb⟩ := HFX.out W hB
        have hWs := hB.size
        have hTc := hT.2 0 _ rfl
        have HT := Lib.hid hT
        have HU := Lib.hid hU
        have HN := Lib.hid hN
        have CO := Lib.hid cO
        have CW := Lib.hid cW
        have CJ := Lib.hid cJ
        have HML := Lib.hid hML
        have HMG := Lib.hid hMG
        have HMY := Lib.hid hMY
        have HMN := Lib.hid hMN
        have HSY := Lib.hid hSY
        have HMA := Lib.hid hMA
        have HXR := Lib.hid hXr
        have HF1 := Lib.hid hF1
        have HFx := Lib.hid hFx
        obtain ⟨q4, q4f⟩ := hTc
        generalize fT P m k1 z = ft at *
        clear cO cW cJ hT hU hN hML hMG hMY hMN hSY hMA hXr hF1 hFx hlt hmp hzs hws
        by_cases hpk : pc = k1
        · have hT4 := hT1 hpk
          have hT5 := hT2 (by omega)
          generalize sumW (fT P m k1) pre = TT at *
          generalize hTT2 : sumW (fT P m k1) (pre ++ [z]) = TT2 at *
          rw [hT4, show wrap64 (TT + G) = IntKind.i64.wrap (TT + G) from by unfold wrap64; exact (IntKind.wrap_i64 _).symm] at hT5
          have hq : ((pc : Int) != (k1 : Int)) = false := by simp [hpk]
          have hq' : ((pc : Int) == (k1 : Int)) = true := by simp [hpk]
          have HT5 := Lib.hid hT5
          have HTT2 := Lib.hid hTT2
          clear hTT2
          have HF2 := Lib.hid (fun j h => HF1.out j hpk h)
          clear hT1 hT0 hF0 hT2 hT3 hV0 hT4 hT5 hpk HF1
          gi_wp2
          (refine wpIn_round_same (by kernel_rfl) (by kernel_rfl) (by kernel_rfl) ?_; (repeat (go_big_quiet_step ((go_at_call 55; exact same_same (CO.out _))))); refine wpQuiet_nil ?_)
          gi_wp2_with (refine ⟨trivial, ?_⟩; gi_at_call 63; refine (CallsIn.inRound yl (callsIn_wide.2 (CW.out _ hB.drew))).mono ?_; rintro e w5 ⟨rfl, hb5⟩; have hb6 : Below W.heap.size W w5 := ((Below.refl _ W).drew).trans (hb5.mono (by simp)); have q5 := (hb6.cell (p := ⟨w3.heap.size + 1, 0, none⟩) (by show w3.heap.size + 1 < W.heap.size; omega)).trans q4; have q5f := (hb6.frozen (p := ⟨w3.heap.size + 1, 0, none⟩) (by show w3.heap.size + 1 < W.heap.size; omega)).trans q4f; have p99 := (hb6.cell (p := ⟨w2.heap.size, 0, none⟩) (by show w2.heap.size < W.heap.size; omega)).trans p9; have hnx : ¬ w2.heap.size = w3.heap.size + 1 := (by omega); have hny : ¬ w3.heap.size + 1 = w2.heap.size := (by omega))
          have hR0 : FlR W0 W w2.heap.size w3.heap.size m (flM P m k1 a b pre z 0) TT2 (w5.setCell ⟨w3.heap.size + 1, 0, none⟩ (.int .i64 (IntKind.i64.wrap (TT + G)))) := by
            rw [hM0, HT5.out]
            refine ⟨⟨⟨⟨((HT.out.later hb6).set (k := 0) (by simp) _), (HU.out.later hb6).other (by show w3.heap.size + 1 ≠ w2.heap.size + 1 + 1 + 1; omega) _⟩, (HN.out.later hb6).other (by show w3.heap.size + 1 ≠ w3.heap.size; omega) _⟩, (hB.trans (hb6.mono (by omega))).setCell (show w2.heap.size + 1 + 1 + 1 ≤ w3.heap.size + 1 by omega) _⟩, (keepsFrom_of_below hb6).trans ((KeepsOthers.setCell _ _ _).from _), (KeepB.of_below hb6 (by omega) (by omega)).set (show w2.heap.size + 1 + 1 + 1 ≤ w3.heap.size + 1 by omega) (show w3.heap.size + 1 ≠ w3.heap.size + 1 + 1 by omega) _⟩
          have hR0' := hR0
          rw [show IntKind.i64.wrap (TT + G) = wrap64 (TT + G) from by unfold wrap64; exact IntKind.wrap_i64 _] at hR0'
          have HR0 := Lib.hid hR0
          have HR0' := Lib.hid hR0'
          clear hR0 hR0' hb6 q5 q5f p99 hnx hny hb5 q4 q4f p9 p11 p12 pa pb HT HU HN hM0
          gi_loopw [71] (fun i wr => ∃ j : Nat, j ≤ m ∧ i = .int .i64 j ∧ FlR W0 W w2.heap.size w3.heap.size m (flM P m k1 a b pre z j) TT2 wr) (fun i _ => m - (intOf i).toNat)
          case atStart => first | exact ⟨0, Nat.zero_le _, rfl, HR0.out⟩ | exact ⟨0, Nat.zero_le _, rfl, HR0'.out⟩
          case round =>
            obtain ⟨j, hj, rfl, hR⟩ := hrel
            have hBr : Below (w2.heap.size + 1 + 1 + 1) W0 wr := hR.1.2
            have hsr : w3.heap.size + 1 + 1 + 1 ≤ wr.heap.size := by have := hBr.size; omega
            by_cases hjm : j < m
            · obtain ⟨b0, off, hA1, hb0, hc1, hc2, hc3⟩ := rows_tp (HXR.out wr hBr) j hjm
              have hjp : j < P.length := by have := HMP.out; omega
              have hTt := HOK.out (tpA P j) (by unfold tpA; rw [List.getElem?_eq_getElem hjp]; exact List.getElem_mem hjp)
              have hand2 := and_one (s / 2 ^ j) (Nat.lt_of_le_of_lt (Nat.div_le_self _ _) (by omega))
              rw [Int.natCast_ediv, Int.natCast_pow] at hand2
              have hand3 : bits BinOp.and IntKind.i64 ((s : Int) / 2 ^ j) 1 = ((s / 2 ^ j % 2 : Nat) : Int) := hand2
              clear hand2
              have hmod : s / 2 ^ j % 2 < 2 := Nat.mod_lt _ (by decide)
              have hml := HML.out j
              have hmg := HMG.out j hjm
              have hmy := HMY.out j hjm
              have hmn := HMN.out j
              have hsy := HSY.out j
              have hfx := HFx.out j
              have hf2 := HF2.out j
              have hjd : decide ((j : Int) < 0) = false := decide_eq_false (by omega)
              have hj10 : j < 10 := by omega
              have hk1' : (j : Int) < m := by omega
              generalize hfc : fCu P m k1 a b j z = fc at *
              generalize sumW (fCu P m k1 a b j) pre = SF at *
              generalize sumW (fCu P m k1 a b j) (pre ++ [z]) = SF2 at *
              generalize htp : tpA P j = Tq at *
              clear hfc htp hjp
              cases hbt : bt s j
              · have hq2 : (bits BinOp.and IntKind.i64 ((s : Int) / 2 ^ j) 1 == 0) = true := by
                  rw [hand3]; unfold bt at hbt; generalize s / 2 ^ j % 2 = q2 at hbt hmod ⊢; simp at hbt ⊢; omega
                have HE := Lib.hid (hmn (hfx hbt))
                have HRl := Lib.hid (hR.later ((Below.refl _ wr).alloc (Nat.le_refl _) (.cells #[.int .i64 Tq.1, .int .i64 Tq.2.1, .int .i64 Tq.2.2] 38)) (by omega) (by omega))
                obtain ⟨p9, -, -, -, -⟩ := HFX.out wr hBr
                subst hA1
                clear hand3 hmod hml hmg hmy hmn hsy hfx hf2 hbt hR
                gi_wp2
                go_roundw
                case rel => exact ⟨j + 1, by omega, by go_num, by rw [HE.out]; exact HRl.out⟩
                case measure => simp [intOf]; omega
              · have hq2 : (bits BinOp.and IntKind.i64 ((s : Int) / 2 ^ j) 1 == 0) = false := by
                  rw [hand3]; unfold bt at hbt; generalize s / 2 ^ j % 2 = q2 at hbt hmod ⊢; simp at hbt ⊢; omega
                have hf3 := hf2 hbt
                have hpw2 := bt_pow hbt
                have hand4 := andNot_bit hs1024 hj10 hbt
                have hpj : 2 ^ j ≤ 512 := by have := Nat.pow_le_pow_right (n := 2) (by decide) (show j ≤ 9 by omega); simpa using this
                have hpc : (2 : Int) ^ j = ((2 ^ j : Nat) : Int) := by simp
                have hpk0 : (0 : Int) ≤ ((2 ^ j : Nat) : Int) := Int.natCast_nonneg _
                have hpk1 : ((2 ^ j : Nat) : Int) ≤ 512 := Int.ofNat_le.2 hpj
                have hwk : IntKind.i64.wrap (2 ^ j) = ((2 ^ j : Nat) : Int) := by rw [hpc]; exact IntWalk.i64_in _ ⟨Int.le_trans (by decide) hpk0, Int.le_trans hpk1 (by decide)⟩
                have cj := fun X hX => CJ.out (s - 2 ^ j) X (by omega) hX
                unfold sgL at hf3
                generalize hqr : (jk P (s - 2 ^ j) m).1 = R at *
                generalize (jk P (s - 2 ^ j) m).2 = qt at *
                unfold arrV at cj
                have CJ2 := Lib.hid cj
                have HPC := Lib.hid hpc
                have HMY2 := Lib.hid hmy
                have HMG2 := Lib.hid hmg
                have HML2 := Lib.hid hml
                have HF3 := Lib.hid hf3
                have HSY2 := Lib.hid hsy
                have HMN2 := Lib.hid hmn
                clear hand3 hmod hmn hfx hf2 hbt cj hqr hpw2 hpc hmy hmg hml hf3 hsy
                generalize (2 : Nat) ^ j = M at *
                subst hA1
                gi_upto_region 22 with fail
                obtain ⟨Wa, hWa⟩ : ∃ q, q = wr.alloc (.cells #[.int .i64 Tq.1, .int .i64 Tq.2.1, .int .i64 Tq.2.2] 38) := ⟨_, rfl⟩
                have hBa : Below (w2.heap.size + 1 + 1 + 1) W0 Wa := by rw [hWa]; exact hBr.alloc (by omega) _
                have hTa : CA Wa wr.heap.size [.int .i64 Tq.1, .int .i64 Tq.2.1, .int .i64 Tq.2.2] := by rw [hWa]; exact CA.new wr [.int .i64 Tq.1, .int .i64 Tq.2.1, .int .i64 Tq.2.2] 38
                have hRa := hR.later ((Below.refl _ wr).alloc (Nat.le_refl _) (.cells #[.int .i64 Tq.1, .int .i64 Tq.2.1, .int .i64 Tq.2.2] 38)) (by omega) (by omega)
                rw [← hWa] at hRa
                have hsa := hTa.1
                have hsa3 : w2.heap.size + 1 + 1 + 1 ≤ Wa.heap.size := by omega
                have hlt9 : w2.heap.size < Wa.heap.size := by omega
                obtain ⟨p9, -, -, pa, pb⟩ := HFX.out Wa hBa
                rw [← hWa]
                have HRa := Lib.hid hRa
                have HTa := Lib.hid hTa
                clear hWa hR hRa hTa
                gi_cut [19] from 161 (fun s19 wc => ∃ ub, isPc s19 ub ∧ CA wc ub [.int .i64 (num R 0), .int .i64 (num R 1), .int .i64 (num R 2), .int .i64 (num R 3), .int .i64 (num R 4), .int .i64 (num R 5)] ∧ Below Wa.heap.size Wa wc)
                case first =>
                  refine wpIn_round_mix (by kernel_rfl) (by kernel_rfl) (by kernel_rfl) ?_
                  refine wpC_take (f := 7) (by kernel_rfl) (by kernel_rfl) ⟨⟨_, (Below.refl _ _).drew⟩, rfl⟩ [0, 1, 2, 3, 4] _ _ (by kernel_rfl) ?_
                  simp only [List.map_cons, List.map_nil, List.getElem?_toArray, List.getElem?_cons_succ, List.getElem?_cons_zero, Option.getD_some]
                  repeat (go_big_quiet_step (fail))
                  refine wpQuiet_nil ?_
                  have hBx : Below Wa.heap.size Wa Wa.drew := (Below.refl _ _).drew
                  refine wpC_all (rs := [5, 9]) (by kernel_rfl) (by decide) ?_
                  intro i hi
                  simp only [List.mem_cons, List.not_mem_nil, or_false] at hi
                  rcases hi with rfl | rfl
                  · refine ⟨_, rfl, ?_⟩
                    go_simp
                    refine (CJ2.out _ (hBa.trans (hBx.mono hsa3))).mono ?_
                    rintro e WW0 ⟨rfl, hb9⟩
                    replace hBx := below_step hBx hb9
                    clear hb9
                    have hB := hBx
                    refine ⟨⟨⟨_, hBx⟩, rfl⟩, ?_⟩
                    go_simp
                    refine wpC_take (f := 3) (by kernel_rfl) (by kernel_rfl) ⟨⟨_, hB⟩, rfl⟩ [6, 7, 8] _ _ (by kernel_rfl) ?_
                    simp only [List.map_cons, List.map_nil, List.getElem?_toArray, List.getElem?_cons_succ, List.getElem?_cons_zero, Option.getD_some]
                    repeat (go_big_quiet_step (fail))
                    refine wpQuiet_nil ?_
                    refine wpC_all (rs := [9]) (by kernel_rfl) (by decide) ?_
                    intro i hi
                    simp only [List.mem_cons, List.not_mem_nil, or_false] at hi
                    subst hi
                    refine ⟨_, rfl, ?_⟩
                    go_simp
                    obtain ⟨ub, hub⟩ : ∃ q, q = WW0.heap.size := ⟨_, rfl⟩
                    have h0u : Wa.heap.size ≤ ub := by rw [hub]; exact hBx.size
                    have hu : CA (WW0.alloc (.cells #[.int .i64 0, .int .i64 0, .int .i64 0, .int .i64 0, .int .i64 0, .int .i64 0] 70)) ub [.int .i64 0, .int .i64 0, .int .i64 0, .int .i64 0, .int .i64 0, .int .i64 0] := by rw [hub]; exact CA.new WW0 [.int .i64 0, .int .i64 0, .int .i64 0, .int .i64 0, .int .i64 0, .int .i64 0] 70
                    replace hBx : Below Wa.heap.size Wa (WW0.alloc (.cells #[.int .i64 0, .int .i64 0, .int .i64 0, .int .i64 0, .int .i64 0, .int .i64 0] 70)) := hBx.alloc hBx.size _
                    rw [← hub]
                    clear hub
                    generalize WW0.alloc (.cells #[.int .i64 0, .int .i64 0, .int .i64 0, .int .i64 0, .int .i64 0, .int .i64 0] 70) = WW1 at *
                    have hB := hBx
                    refine ⟨⟨⟨_, hBx⟩, rfl⟩, ?_⟩
                    refine wpC_all (rs := [10]) (by kernel_rfl) (by decide) ?_
                    intro i hi
                    simp only [List.mem_cons, List.not_mem_nil, or_false] at hi
                    subst hi
                    refine ⟨_, rfl, ?_⟩
                    obtain ⟨z0, f0⟩ := hu.2 0 _ rfl
                    obtain ⟨z1, f1⟩ := hu.2 1 _ rfl
                    obtain ⟨z2, f2⟩ := hu.2 2 _ rfl
                    obtain ⟨z3, f3⟩ := hu.2 3 _ rfl
                    obtain ⟨z4, f4⟩ := hu.2 4 _ rfl
                    obtain ⟨z5, f5⟩ := hu.2 5 _ rfl
                    have hJ := ca_six R hu
                    have hBJ := (((((hBx.setCell (p := ⟨ub, 0, none⟩) h0u (.int .i64 (num R 0))).setCell (p := ⟨ub, 1, none⟩) h0u (.int .i64 (num R 1))).setCell (p := ⟨ub, 2, none⟩) h0u (.int .i64 (num R 2))).setCell (p := ⟨ub, 3, none⟩) h0u (.int .i64 (num R 3))).setCell (p := ⟨ub, 4, none⟩) h0u (.int .i64 (num R 4))).setCell (p := ⟨ub, 5, none⟩) h0u (.int .i64 (num R 5))
                    go_simp
                    have hB := hBJ
                    refine ⟨⟨⟨_, hBJ⟩, rfl⟩, ?_⟩
                    refine wpC_take (f := 0) (by kernel_rfl) (by kernel_rfl) ⟨⟨_, hB⟩, rfl⟩ [11] _ _ (by kernel_rfl) ?_
                    simp only [List.map_cons, List.map_nil, List.getElem?_toArray, List.getElem?_cons_succ, List.getElem?_cons_zero, Option.getD_some]
                    repeat (go_big_quiet_step (fail))
                    refine wpQuiet_nil ?_
                    refine wpC_done (by kernel_rfl) ?_
                    first | gi_wp2_with fail | skip
                    gi_meet
                    case rel => exact ⟨_, rfl, hJ, hBJ⟩
                  · refine ⟨_, rfl, ?_⟩
                    go_simp
                    obtain ⟨ub, hub⟩ : ∃ q, q = Wa.heap.size := ⟨_, rfl⟩
                    have h0u : Wa.heap.size ≤ ub := by omega
                    have hu : CA (Wa.alloc (.cells #[.int .i64 0, .int .i64 0, .int .i64 0, .int .i64 0, .int .i64 0, .int .i64 0] 70)).drew ub [.int .i64 0, .int .i64 0, .int .i64 0, .int .i64 0, .int .i64 0, .int .i64 0] := by rw [hub]; exact (CA.new Wa [.int .i64 0, .int .i64 0, .int .i64 0, .int .i64 0, .int .i64 0, .int .i64 0] 70).drew
                    have hBx : Below Wa.heap.size Wa (Wa.alloc (.cells #[.int .i64 0, .int .i64 0, .int .i64 0, .int .i64 0, .int .i64 0, .int .i64 0] 70)).drew := ((Below.refl _ Wa).alloc (Nat.le_refl _) _).drew
                    rw [← hub]
                    clear hub
                    generalize (Wa.alloc (.cells #[.int .i64 0, .int .i64 0, .int .i64 0, .int .i64 0, .int .i64 0, .int .i64 0] 70)).drew = WW0 at *
                    have hB := hBx
                    refine ⟨⟨⟨_, hBx⟩, rfl⟩, ?_⟩
                    refine wpC_all (rs := [5]) (by kernel_rfl) (by decide) ?_
                    intro i hi
                    simp only [List.mem_cons, List.not_mem_nil, or_false] at hi
                    subst hi
                    refine ⟨_, rfl, ?_⟩
                    go_simp
                    refine (CJ2.out _ (hBa.trans (hBx.mono hsa3))).mono ?_
                    rintro e WW1 ⟨rfl, hb9⟩
                    replace hBx := below_step hBx hb9
                    replace hu := hu.later hb9
                    clear hb9
                    have hB := hBx
                    refine ⟨⟨⟨_, hBx⟩, rfl⟩, ?_⟩
                    go_simp
                    refine wpC_take (f := 2) (by kernel_rfl) (by kernel_rfl) ⟨⟨_, hB⟩, rfl⟩ [6, 7, 8] _ _ (by kernel_rfl) ?_
                    simp only [List.map_cons, List.map_nil, List.getElem?_toArray, List.getElem?_cons_succ, List.getElem?_cons_zero, Option.getD_some]
                    repeat (go_big_quiet_step (fail))
                    refine wpQuiet_nil ?_
                    refine wpC_all (rs := [10]) (by kernel_rfl) (by decide) ?_
                    intro i hi
                    simp only [List.mem_cons, List.not_mem_nil, or_false] at hi
                    subst hi
                    refine ⟨_, rfl, ?_⟩
                    obtain ⟨z0, f0⟩ := hu.2 0 _ rfl
                    obtain ⟨z1, f1⟩ := hu.2 1 _ rfl
                    obtain ⟨z2, f2⟩ := hu.2 2 _ rfl
                    obtain ⟨z3, f3⟩ := hu.2 3 _ rfl
                    obtain ⟨z4, f4⟩ := hu.2 4 _ rfl
                    obtain ⟨z5, f5⟩ := hu.2 5 _ rfl
                    have hJ := ca_six R hu
                    have hBJ := (((((hBx.setCell (p := ⟨ub, 0, none⟩) h0u (.int .i64 (num R 0))).setCell (p := ⟨ub, 1, none⟩) h0u (.int .i64 (num R 1))).setCell (p := ⟨ub, 2, none⟩) h0u (.int .i64 (num R 2))).setCell (p := ⟨ub, 3, none⟩) h0u (.int .i64 (num R 3))).setCell (p := ⟨ub, 4, none⟩) h0u (.int .i64 (num R 4))).setCell (p := ⟨ub, 5, none⟩) h0u (.int .i64 (num R 5))
                    go_simp
                    have hB := hBJ
                    refine ⟨⟨⟨_, hBJ⟩, rfl⟩, ?_⟩
                    refine wpC_take (f := 0) (by kernel_rfl) (by kernel_rfl) ⟨⟨_, hB⟩, rfl⟩ [11] _ _ (by kernel_rfl) ?_
                    simp only [List.map_cons, List.map_nil, List.getElem?_toArray, List.getElem?_cons_succ, List.getElem?_cons_zero, Option.getD_some]
                    repeat (go_big_quiet_step (fail))
                    refine wpQuiet_nil ?_
                    refine wpC_done (by kernel_rfl) ?_
                    first | gi_wp2_with fail | skip
                    gi_meet
                    case rel => exact ⟨_, rfl, hJ, hBJ⟩
                case rest =>
                  obtain ⟨ub, hp, hCA, hbc⟩ := hcut
                  unfold isPc at hp
                  subst hp
                  have hB2 : Below (w2.heap.size + 1 + 1 + 1) W0 wc := hBa.trans (hbc.mono hsa3)
                  have hsc : w3.heap.size + 1 + 1 + 1 ≤ wc.heap.size := by have := hB2.size; omega
                  have hRc := HRa.out.later hbc hsa3 (by omega)
                  have hTc := HTa.out.later hbc
                  obtain ⟨-, -, -, pa, pb⟩ := HFX.out wc hB2
                  have tc0 := (hTc.2 0 _ rfl).1
                  have tc1 := (hTc.2 1 _ rfl).1
                  obtain ⟨⟨t0, t1⟩, ⟨t2, t3⟩, -⟩ := hTt
                  have ga := ca_at6 hCA ha
                  have gb := ca_at6 hCA hb
                  have gA := ca_at6 hCA ⟨t0, t1⟩
                  have gB := ca_at6 hCA ⟨t2, t3⟩
                  obtain ⟨ha0, ha1⟩ := ha
                  obtain ⟨hb0', hb1'⟩ := hb
                  have cN := (hRc.1.1.2.2 0 _ rfl).1
                  obtain ⟨cF, cFf⟩ := hRc.1.1.1.2.2 j _ HMG2.out
                  have HRc := Lib.hid hRc
                  generalize at6 R a = la at *
                  generalize at6 R b = lb at *
                  generalize at6 R Tq.1 = lA at *
                  generalize at6 R Tq.2.1 = lB at *
                  clear hRc hTc hCA hbc HRa HTa hBa p9
                  gi_upto_region 23 with fail
                  by_cases h1 : la = lA
                  · have e1 : (la == lA) = true := by simpa using h1
                    by_cases h2 : lb = lB
                    · have e2 : (lb == lB) = true := by simpa using h2
                      have hfc : fc = G := by rw [HF3.out]; rw [if_pos ⟨h1, h2⟩]; exact Int.mul_one _
                      have hsy := HSY2.out (by omega)
                      rw [hfc] at hsy
                      have hmy := HMY2.out
                      rw [hsy] at hmy
                      have hmy' := hmy
                      rw [show wrap64 (SF + G) = IntKind.i64.wrap (SF + G) from by unfold wrap64; exact (IntKind.wrap_i64 _).symm] at hmy'
                      have HE := Lib.hid hmy
                      have HE' := Lib.hid hmy'
                      clear hfc hsy hmy hmy'
                      clear h1 h2
                      (refine wpIn_round_same (by kernel_rfl) (by kernel_rfl) (by kernel_rfl) ?_; (repeat (go_big_quiet_step ((fail)))); refine wpQuiet_nil ?_)
                      gi_wp2
                      go_roundw
                      case rel => first | exact ⟨j + 1, by omega, by go_num, by rw [HE'.out]; exact (HRc.out.later ((Below.refl _ _).drew) (by omega) (by omega)).store (by omega) (by rw [HML2.out]; exact hjm) _⟩ | exact ⟨j + 1, by omega, by go_num, by rw [HE.out]; exact (HRc.out.later ((Below.refl _ _).drew) (by omega) (by omega)).store (by omega) (by rw [HML2.out]; exact hjm) _⟩
                      case measure => simp [intOf]; omega
                    · have e2 : (lb == lB) = false := by simpa using h2
                      have hno : ¬ (la = lA ∧ lb = lB) := fun h => h2 h.2
                      by_cases h3 : la = lB
                      · have e3 : (la == lB) = true := by simpa using h3
                        by_cases h4 : lb = lA
                        · have e4 : (lb == lA) = true := by simpa using h4
                          exact absurd (h4.trans (h1.symm.trans h3)) h2
                        · have e4 : (lb == lA) = false := by simpa using h4
                          have hfc : fc = 0 := by rw [HF3.out]; rw [if_neg hno, if_neg (fun h => h4 h.2)]; exact Int.mul_zero _
                          have HE := Lib.hid (HMN2.out hfc)
                          clear hfc
                          clear hno h3 h4 h1 h2
                          (refine wpIn_round_same (by kernel_rfl) (by kernel_rfl) (by kernel_rfl) ?_; (repeat (go_big_quiet_step ((fail)))); refine wpQuiet_nil ?_)
                          gi_wp2
                          (refine wpIn_round_same (by kernel_rfl) (by kernel_rfl) (by kernel_rfl) ?_; (repeat (go_big_quiet_step ((fail)))); refine wpQuiet_nil ?_)
                          gi_wp2
                          go_roundw
                          case rel => exact ⟨j + 1, by omega, by go_num, by rw [HE.out]; exact HRc.out.later ((Below.refl _ _).drew.drew) (by omega) (by omega)⟩
                          case measure => simp [intOf]; omega
                      · have e3 : (la == lB) = false := by simpa using h3
                        have hfc : fc = 0 := by rw [HF3.out]; rw [if_neg hno, if_neg (fun h => h3 h.1)]; exact Int.mul_zero _
                        have HE := Lib.hid (HMN2.out hfc)
                        clear hfc
                        clear hno h3 h1 h2
                        (refine wpIn_round_same (by kernel_rfl) (by kernel_rfl) (by kernel_rfl) ?_; (repeat (go_big_quiet_step ((fail)))); refine wpQuiet_nil ?_)
                        gi_wp2
                        (refine wpIn_round_same (by kernel_rfl) (by kernel_rfl) (by kernel_rfl) ?_; (repeat (go_big_quiet_step ((fail)))); refine wpQuiet_nil ?_)
                        gi_wp2
                        go_roundw
                        case rel => exact ⟨j + 1, by omega, by go_num, by rw [HE.out]; exact HRc.out.later ((Below.refl _ _).drew.drew) (by omega) (by omega)⟩
                        case measure => simp [intOf]; omega
                  · have e1 : (la == lA) = false := by simpa using h1
                    have hno : ¬ (la = lA ∧ lb = lB) := fun h => h1 h.1
                    by_cases h3 : la = lB
                    · have e3 : (la == lB) = true := by simpa using h3
                      by_cases h4 : lb = lA
                      · have e4 : (lb == lA) = true := by simpa using h4
                        have hfc : fc = -G := by rw [HF3.out]; rw [if_neg hno, if_pos ⟨h3, h4⟩]; exact by omega
                        have hsy := HSY2.out (by omega)
                        rw [hfc] at hsy
                        rw [← Int.sub_eq_add_neg] at hsy
                        have hmy := HMY2.out
                        rw [hsy] at hmy
                        have hmy' := hmy
                        rw [show wrap64 (SF - G) = IntKind.i64.wrap (SF - G) from by unfold wrap64; exact (IntKind.wrap_i64 _).symm] at hmy'
                        have HE := Lib.hid hmy
                        have HE' := Lib.hid hmy'
                        clear hfc hsy hmy hmy'
                        clear hno h3 h4 h1
                        (refine wpIn_round_same (by kernel_rfl) (by kernel_rfl) (by kernel_rfl) ?_; (repeat (go_big_quiet_step ((fail)))); refine wpQuiet_nil ?_)
                        gi_wp2
                        (refine wpIn_round_same (by kernel_rfl) (by kernel_rfl) (by kernel_rfl) ?_; (repeat (go_big_quiet_step ((fail)))); refine wpQuiet_nil ?_)
                        gi_wp2
                        go_roundw
                        case rel => first | exact ⟨j + 1, by omega, by go_num, by rw [HE'.out]; exact (HRc.out.later ((Below.refl _ _).drew.drew) (by omega) (by omega)).store (by omega) (by rw [HML2.out]; exact hjm) _⟩ | exact ⟨j + 1, by omega, by go_num, by rw [HE.out]; exact (HRc.out.later ((Below.refl _ _).drew.drew) (by omega) (by omega)).store (by omega) (by rw [HML2.out]; exact hjm) _⟩
                        case measure => simp [intOf]; omega
                      · have e4 : (lb == lA) = false := by simpa using h4
                        have hfc : fc = 0 := by rw [HF3.out]; rw [if_neg hno, if_neg (fun h => h4 h.2)]; exact Int.mul_zero _
                        have HE := Lib.hid (HMN2.out hfc)
                        clear hfc
                        clear hno h3 h4 h1
                        (refine wpIn_round_same (by kernel_rfl) (by kernel_rfl) (by kernel_rfl) ?_; (repeat (go_big_quiet_step ((fail)))); refine wpQuiet_nil ?_)
                        gi_wp2
                        (refine wpIn_round_same (by kernel_rfl) (by kernel_rfl) (by kernel_rfl) ?_; (repeat (go_big_quiet_step ((fail)))); refine wpQuiet_nil ?_)
                        gi_wp2
                        go_roundw
                        case rel => exact ⟨j + 1, by omega, by go_num, by rw [HE.out]; exact HRc.out.later ((Below.refl _ _).drew.drew) (by omega) (by omega)⟩
                        case measure => simp [intOf]; omega
                    · have e3 : (la == lB) = false := by simpa using h3
                      have hfc : fc = 0 := by rw [HF3.out]; rw [if_neg hno, if_neg (fun h => h3 h.1)]; exact Int.mul_zero _
                      have HE := Lib.hid (HMN2.out hfc)
                      clear hfc
                      clear hno h3 h1
                      (refine wpIn_round_same (by kernel_rfl) (by kernel_rfl) (by kernel_rfl) ?_; (repeat (go_big_quiet_step ((fail)))); refine wpQuiet_nil ?_)
                      gi_wp2
                      (refine wpIn_round_same (by kernel_rfl) (by kernel_rfl) (by kernel_rfl) ?_; (repeat (go_big_quiet_step ((fail)))); refine wpQuiet_nil ?_)
                      gi_wp2
                      go_roundw
                      case rel => exact ⟨j + 1, by omega, by go_num, by rw [HE.out]; exact HRc.out.later ((Below.refl _ _).drew.drew) (by omega) (by omega)⟩
                      case measure => simp [intOf]; omega
            · have hjm' : j = m := by omega
              have hRm := hR
              rw [hjm', HMA.out] at hRm
              have HRm := Lib.hid hRm
              have hjm2 : decide ((j : Int) < m) = false := decide_eq_false (by omega)
              have hjm3 : ¬ (j : Int) < m := by omega
              clear hR hRm hjm'
              gi_wp2
              exact ⟨by have h := HRm.out.2.1; first | exact h | (rw [hsz] at h; exact h), HRm.out.2.2, by have h := HRm.out.1; rw [← HTT2.out] at h; exact h⟩
        · have hq : ((pc : Int) != (k1 : Int)) = true := by simp; omega
          have hq' : ((pc : Int) == (k1 : Int)) = false := by simp; omega
          have HT4 := Lib.hid (hT3 (hT0 hpk))
          have HV0 := Lib.hid (hV0 (fun j _ => hF0 j hpk))
          clear hT1 hT0 hF0 hT2 hT3 hV0 hpk
          gi_wp2
          (refine wpIn_round_same (by kernel_rfl) (by kernel_rfl) (by kernel_rfl) ?_; (repeat (go_big_quiet_step ((go_at_call 55; exact same_same (CO.out _))))); refine wpQuiet_nil ?_)
          all_goals
            gi_wp2
            have hbW : Below W.heap.size W _ := (Below.refl _ W).drew
            refine ⟨keepsFrom_of_below hbW, KeepB.of_below hbW (by omega) (by omega), ⟨⟨⟨?_, ?_⟩, HN.out.later hbW⟩, hB.trans (hbW.mono (by omega))⟩⟩
            · rw [HT4.out]; exact HT.out.later hbW
            · rw [HV0.out]; exact HU.out.later hbW
      case done =>
        rintro D ys W hD rfl ⟨⟨⟨hT, hU⟩, hN⟩, hB⟩ hK
        rw [HSD.out] at hT
        rw [HFD.out] at hU
        have hWs := hB.size
        have hco := HCO.out.below hB (show w.heap.size + 1 + 1 < w2.heap.size + 1 + 1 + 1 by omega)
        have hW : Below w.heap.size w W := hB0.trans (hB.mono (by omega))
        have hNc := (hN.2 0 _ rfl).1
        have HJ0 := Lib.hid (show CdP w w2.heap.size w3.heap.size D len NI (fun i => flo k (P.eraseIdx i) (tpA P i) a b) TN m A2 0 W from ⟨hco, hU, hT, HI0.out W hB, by omega, hK, hW⟩)
        clear hT hU hN hco hB hK hW hWs
        go_wp2
        go_loopw [145] (fun i X => ∃ j : Nat, j ≤ m ∧ i = .int .i64 j ∧ CdP w w2.heap.size w3.heap.size D len NI (fun i => flo k (P.eraseIdx i) (tpA P i) a b) TN m A2 j X) (fun i _ => m - (intOf i).toNat)
        case atStart => exact ⟨0, Nat.zero_le _, rfl, HJ0.out⟩
        case round =>
          obtain ⟨j, hj, rfl, hP⟩ := hrel
          have hsz2 := hP.2.2.2.2.1
          have HPd := Lib.hid hP
          obtain ⟨hO, hF, hT, hI, -, hK, hbw⟩ := hP
          by_cases hjm : j < m
          · obtain ⟨gI, hA2, hg1, hg2, hgc⟩ := hI j hjm
            have hidx := HNL.out j (by omega)
            have hfb := HFB.out j hjm
            have hF1 : ((List.range m).map fun i => Value.int .i64 (flo k (P.eraseIdx i) (tpA P i) a b))[j]? = some (.int .i64 (flo k (P.eraseIdx j) (tpA P j) a b)) := by simp [hjm]
            obtain ⟨hFc, -⟩ := hF.2 j _ hF1
            obtain ⟨hTc, -⟩ := hT.2 0 _ rfl
            have hstep := fun Y (hb : Below wr.heap.size wr Y) => HPd.out.step (Y := Y) (by omega) (by omega) (by omega) hb (I := NI[j]?.getD 0) rfl hidx
            have cR := fun X => tratio_any (flo k (P.eraseIdx j) (tpA P j) a b) TN X ht1 (by omega) (by omega) (by omega)
            have hO1 := fun Y (hb : Below wr.heap.size wr Y) => (hO.later hb).2 ((NI[j]?.getD 0) * 2) _ (pcells_get _ (NI[j]?.getD 0) (by rw [outK_len]; exact hidx)).1
            have hO2 := fun Y (hb : Below wr.heap.size wr Y) => (hO.later hb).2 ((NI[j]?.getD 0) * 2 + 1) _ (pcells_get _ (NI[j]?.getD 0) (by rw [outK_len]; exact hidx)).2
            generalize ((outK len NI (fun i => flo k (P.eraseIdx i) (tpA P i) a b) TN j)[NI[j]?.getD 0]?.getD (0, 0)).1 = o1 at *
            generalize ((outK len NI (fun i => flo k (P.eraseIdx i) (tpA P i) a b) TN j)[NI[j]?.getD 0]?.getD (0, 0)).2 = o2 at *
            have HST := Lib.hid hstep
            have HO1 := Lib.hid hO1
            have HO2 := Lib.hid hO2
            have CR := Lib.hid cR
            clear hstep hO1 hO2 cR hF1 hO hF hT hI hK hbw hfb HPd
            generalize NI[j]?.getD 0 = X at *
            generalize flo k (P.eraseIdx j) (tpA P j) a b = Fj at *
            generalize lowN Fj TN = ln at *
            generalize lowD Fj TN = ld at *
            have hgs : gI < wr.heap.size := by omega
            have hgn : ¬ gI = w.heap.size + 1 + 1 := by omega
            have hts : w3.heap.size + 1 < wr.heap.size := by omega
            have htn : ¬ w3.heap.size + 1 = w.heap.size + 1 + 1 := by omega
            have htn' : ¬ w3.heap.size = w.heap.size + 1 := by omega
            have hxl : (X : Int) < len := by omega
            have hjl : (j : Int) < m := by omega
            subst hA2
            go_upto_region 31 with fail
            refine wp_region_oc (w.heap.size + 1 + 1) (by kernel_rfl) (by kernel_rfl) ?_
            refine wpC_take (f := 3) (by kernel_rfl) (by kernel_rfl) ⟨⟨_, oc_drew (oc_refl _ _)⟩, rfl⟩ [0, 1, 2, 3, 4, 5, 6] _ _ (by kernel_rfl) ?_
            simp only [List.map_cons, List.map_nil, List.getElem?_toArray, List.getElem?_cons_succ, List.getElem?_cons_zero, Option.getD_some]
            repeat (go_big_quiet_step (fail))
            refine wpQuiet_nil ?_
            refine wpC_all (rs := [7]) (by kernel_rfl) (by decide) ?_
            intro i hi
            simp only [List.mem_cons, List.not_mem_nil, or_false] at hi
            subst hi
            refine ⟨_, rfl, ?_⟩
            go_simp
            refine (CR.out _).mono ?_
            rintro e w7 ⟨rfl, hb7⟩
            have hb8 : Below wr.heap.size wr w7 := ((Below.refl _ wr).drew).trans (hb7.mono (by simp))
            refine ⟨⟨⟨_, oc_below (oc_drew (oc_refl _ _)) hb7⟩, rfl⟩, ?_⟩
            refine wpC_take (f := 1) (by kernel_rfl) (by kernel_rfl) ⟨⟨_, oc_below (oc_drew (oc_refl _ _)) hb7⟩, rfl⟩ [8] _ _ (by kernel_rfl) ?_
            simp only [List.map_cons, List.map_nil, List.getElem?_toArray, List.getElem?_cons_succ, List.getElem?_cons_zero, Option.getD_some]
            repeat (go_big_quiet_step (fail))
            refine wpQuiet_nil ?_
            refine wpC_all (rs := [9]) (by kernel_rfl) (by decide) ?_
            intro i hi
            simp only [List.mem_cons, List.not_mem_nil, or_false] at hi
            subst hi
            refine ⟨_, rfl, ?_⟩
            obtain ⟨z0, f0⟩ := HO1.out w7 hb8
            obtain ⟨z1, f1⟩ := HO2.out w7 hb8
            go_simp
            refine ⟨⟨⟨_, oc_set (oc_set (oc_below (oc_drew (oc_refl _ _)) hb7) _ _) _ _⟩, rfl⟩, ?_⟩
            refine wpC_done (by kernel_rfl) ?_
            clear z0 f0 z1 f1
            go_wp2
            go_roundw
            case rel => exact ⟨j + 1, by omega, by go_num, HST.out w7 hb8⟩
            case measure => simp [intOf]; omega
          · have hjm' : j = m := by omega
            rw [hjm'] at hO
            have hjm2 : decide ((j : Int) < m) = false := decide_eq_false (by omega)
            have HOO := Lib.hid hO
            have hbD : Below w.heap.size w (wr.putObj D (.deferred none)) := hbw.trans (belowK_b (w := W0) (by omega) _ D _ _ (by omega) hK rfl rfl)
            have hOD : CA (wr.putObj D (.deferred none)) (w.heap.size + 1 + 1) (pcells (outK len NI (fun i => flo k (P.eraseIdx i) (tpA P i) a b) TN m)) :=
              ca_own (β := Unit) _ (fun _ => _) () wr _ (some D) hO (grownBy_putObj' wr D _) (fun r e => by cases e; exact ⟨_, hK, rfl⟩)
            rw [← HO.out] at hOD
            have HOD := Lib.hid hOD
            clear hO hF hT hI hjm' HOO hOD HPd
            go_wp2
            refine ⟨by simp, .inl ⟨_, _, rfl, run_takeDeferred hK, ?_⟩⟩
            exact ⟨.slice (some ⟨w.heap.size + 1 + 1, 0, none⟩) len len, by simp [results, Try.results35, go_sem], ⟨⟨_, rfl, by omega, HOD.out⟩, hbD⟩⟩
      case stop =>
        rintro D c pre W _ _ h _
        exact h.elim
end Go.Proofs.Ytpfhfmnlojigpaa
