/- Stacks: Arm of the program. -/
import Derived.Test.YtfahdgmnlpkaiaaStk3
import Derived.Deep.Cut
set_option linter.unusedSimpArgs false
set_option linter.unusedVariables false
namespace Go.Proofs.Ytfahdgmnlpkaiaa
open Go.RowKit
attribute [local go_sem] Later.cell LtN.cell LtS.cell

theorem KeepS.set2 {n : Nat} {S : Nat → Prop} {W : World} {b : Nat} {u v : Value} (h : S b) : KeepS n S W ((W.setCell ⟨b, 0, none⟩ u).setCell ⟨b, 1, none⟩ v) := ⟨Nat.le_trans (KeepsOthers.setCell _ _ _).size (KeepsOthers.setCell _ _ _).size, fun j _ hs => (Below.heap_setCell _ _ _ j (fun e => hs (by have e : j = b := e; rw [e]; exact h))).trans (Below.heap_setCell _ _ _ j (fun e => hs (by have e : j = b := e; rw [e]; exact h)))⟩
theorem arm_bd {c : Cs} {a : Ab} {p side : Int} (ha : abOk a) (hce : -5000 ≤ c.e ∧ c.e ≤ 5000) (hcn : -5000 ≤ c.n ∧ c.n ≤ 5000) (hp : 0 ≤ p ∧ p ≤ 10000) : (-4611686018427387904 ≤ armX c a p side ∧ armX c a p side ≤ 4611686018427387904) ∧ -4611686018427387904 ≤ armY c a p side ∧ armY c a p side ≤ 4611686018427387904 := by
  obtain ⟨ha1, ha2, ha3, ha4, ha5⟩ := ha
  have m1 := mulB (x := a.w) (y := c.e) (A := 20000000) (B := 5000) ⟨by omega, ha1.2⟩ hce
  have m2 := mulB (x := a.w) (y := c.n) (A := 20000000) (B := 5000) ⟨by omega, ha1.2⟩ hcn
  obtain ⟨mb1, mb2⟩ := mv_bd side
  have m4 := mulB (x := mvX side) (y := p) (A := 1) (B := 10000) mb1 ⟨by omega, hp.2⟩
  have m5 := mulB (x := mvY side) (y := p) (A := 1) (B := 10000) mb2 ⟨by omega, hp.2⟩
  have m6 := mulB (x := mvX side * p) (y := a.p) (A := 10000) (B := 20000000000000) (by omega) ⟨by omega, ha5.2⟩
  have m7 := mulB (x := mvY side * p) (y := a.p) (A := 10000) (B := 20000000000000) (by omega) ⟨by omega, ha5.2⟩
  simp only [Int.reduceMul, Int.reduceNeg] at m1 m2 m4 m5 m6 m7
  unfold armX armY
  omega
theorem winE_ok {l : List Cs} {bed p side : Int} (h : winE l bed p side = 0) : vS l = true ∧ (0 ≤ bed ∧ bed ≤ (l.length : Int) - 1) ∧ (0 ≤ p ∧ p ≤ 10000) ∧ 0 ≤ side ∧ side ≤ 3 := by
  unfold winE at h
  split at h
  · rename_i ha
    split at h
    · rename_i hp
      rw [Bool.and_eq_true] at hp
      unfold askS at ha
      split at ha
      · rename_i hv
        split at ha
        · rename_i hb
          exact ⟨hv, withinB_iff.1 hb, withinB_iff.1 hp.1, withinB_iff.1 hp.2⟩
        · cases ha
      · cases ha
    · cases h
  · rename_i ha
    exact absurd h ha
set_option maxRecDepth 20000 in
set_option maxHeartbeats 8000000 in
theorem arm_err (A : Option Addr) (len cap : Nat) (l : List Cs) (bed p side : Int) (w : World) (hm : len ≤ 9223372036854775807) (hx : Rows 6 c6V dC w w.heap.size A len l) (he : winE l bed p side ≠ 0) :
    Calls Try.prog 9 #[.slice A len cap, .int .i64 bed, .int .i64 p, .int .i64 side] w fun e w' => e = .returned (.tuple #[.agg #[.int .i64 0, .int .i64 0], .agg #[.int .i64 0, .int .i64 0], .int .i64 (winE l bed p side)]) ∧ Below w.heap.size w w' := by
  have c1 := fun W (h : Below w.heap.size w W) => windy_any A len cap l bed p side W hm ((hx.below h).more h.size)
  generalize winE l bed p side = E at *
  have hE2 : (E == 0) = false := beq_eq_false_iff_ne.2 he
  have C1 := Lib.hid c1
  clear c1 hx he
  have hb8 : BoxN ((w.alloc (.cells #[.int .i64 0, .int .i64 0] 34)).alloc (.cells #[.int .i64 0, .int .i64 0] 34)) w.heap.size 34 #[.int .i64 0, .int .i64 0] := (BoxN.new w 34 #[.int .i64 0, .int .i64 0]).block (Below.heap_alloc _ _ _ (by simp))
  have hb9 : BoxN ((w.alloc (.cells #[.int .i64 0, .int .i64 0] 34)).alloc (.cells #[.int .i64 0, .int .i64 0] 34)) (w.heap.size + 1) 34 #[.int .i64 0, .int .i64 0] := by
    have := BoxN.new (w.alloc (.cells #[.int .i64 0, .int .i64 0] 34)) 34 #[.int .i64 0, .int .i64 0]
    rwa [World.size_alloc] at this
  have hB0 : Below w.heap.size w ((w.alloc (.cells #[.int .i64 0, .int .i64 0] 34)).alloc (.cells #[.int .i64 0, .int .i64 0] 34)) := ((Below.refl _ w).alloc (Nat.le_refl _) _).alloc (by simp) _
  have hs0 : ((w.alloc (.cells #[.int .i64 0, .int .i64 0] 34)).alloc (.cells #[.int .i64 0, .int .i64 0] 34)).heap.size = w.heap.size + 1 + 1 := by simp
  go_enter Try.func9, Try.ntmps9
  go_wp2_with fail
  generalize ((w.alloc (.cells #[.int .i64 0, .int .i64 0] 34)).alloc (.cells #[.int .i64 0, .int .i64 0] 34)) = W0 at *
  refine (C1.out _ hB0).mono ?_
  rintro e w1 ⟨rfl, hb⟩
  have h8 := hb8.block (hb.block w.heap.size (by omega))
  have h9 := hb9.block (hb.block (w.heap.size + 1) (by omega))
  have hB1 := hB0.trans (hb.mono hB0.size)
  have a0 := h8.cell 0
  have a1 := h8.cell 1
  have b0 := h9.cell 0
  have b1 := h9.cell 1
  have fa0 := h8.frozen 0
  have fa1 := h8.frozen 1
  have fb0 := h9.frozen 0
  have fb1 := h9.frozen 1
  simp at a0 a1 b0 b1
  clear hb hb8 hb9 hs0
  go_wp2
  have k8 := (((h8.set 0 (.int .i64 0)).set 1 (.int .i64 0)).other (b := w.heap.size + 1) (j := 0) (v := .int .i64 0) (by omega)).other (b := w.heap.size + 1) (j := 1) (v := .int .i64 0) (by omega)
  have k9 := ((((h9.other (b := w.heap.size) (j := 0) (v := .int .i64 0) (by omega)).other (b := w.heap.size) (j := 1) (v := .int .i64 0) (by omega)).set 0 (.int .i64 0)).set 1 (.int .i64 0))
  have r0 := k8.cell 0
  have r1 := k8.cell 1
  have s0 := k9.cell 0
  have s1 := k9.cell 1
  simp at r0 r1 s0 s1
  (try simp only [Exit.inBlock, Exit.then])
  refine bodyPost_ret (v := .tuple #[.agg #[.int .i64 0, .int .i64 0], .agg #[.int .i64 0, .int .i64 0], .int .i64 E]) (by simp [results, Try.results9, go_sem, r0, r1, s0, s1]) rfl ⟨rfl, ?_⟩
  exact (((hB1.setCell (p := ⟨w.heap.size, 0, none⟩) (Nat.le_refl _) _).setCell (p := ⟨w.heap.size, 1, none⟩) (Nat.le_refl _) _).setCell (p := ⟨w.heap.size + 1, 0, none⟩) (by show w.heap.size ≤ w.heap.size + 1; omega) _).setCell (p := ⟨w.heap.size + 1, 1, none⟩) (by show w.heap.size ≤ w.heap.size + 1; omega) _
set_option maxRecDepth 20000 in
set_option maxHeartbeats 16000000 in
theorem arm_ok (A : Option Addr) (len cap : Nat) (l : List Cs) (bed : Nat) (p side : Int) (w : World) (hlen : len ≤ 20) (hx : Rows 6 c6V dC w w.heap.size A len l) (he : winE l bed p side = 0) :
    Calls Try.prog 9 #[.slice A len cap, .int .i64 (bed : Int), .int .i64 p, .int .i64 side] w fun e w' => e = .returned (.tuple #[.agg #[.int .i64 (lowN (armX (csA l bed) (stA (l.drop bed)).2 p side) ((stA (l.drop bed)).2.w * 9810000)), .int .i64 (lowD (armX (csA l bed) (stA (l.drop bed)).2 p side) ((stA (l.drop bed)).2.w * 9810000))], .agg #[.int .i64 (lowN (armY (csA l bed) (stA (l.drop bed)).2 p side) ((stA (l.drop bed)).2.w * 9810000)), .int .i64 (lowD (armY (csA l bed) (stA (l.drop bed)).2 p side) ((stA (l.drop bed)).2.w * 9810000))], .int .i64 0]) ∧ Below w.heap.size w w' := by
  have hll := hx.1
  have c1 := fun W (h : Below w.heap.size w W) => windy_any A len cap l bed p side W (by omega) ((hx.below h).more h.size)
  rw [he] at c1
  obtain ⟨hv, hbd, hp, hsd⟩ := winE_ok he
  have hall : l.all sndC = true := by unfold vS at hv; rw [Bool.and_eq_true] at hv; exact hv.2
  have hbl : bed < l.length := by omega
  have hbl2 : bed < len := by omega
  have c2 := fun W (h : Below w.heap.size w W) => at_any A len cap l bed W hlen hall ((hx.below h).more h.size) hbl2
  have hok : abOk (stA (l.drop bed)).2 := stA_ok (by rw [List.length_drop]; omega) (List.all_eq_true.2 fun x hx => (List.all_eq_true.1 hall) x (List.mem_of_mem_drop hx))
  have hsn : sndC (csA l bed) = true := by rw [csA_get hbl]; exact (List.all_eq_true.1 hall) _ (List.getElem_mem hbl)
  obtain ⟨-, -, -, -, hg, hce, hcn⟩ := sndC_spec hsn
  have hw1 : 1 ≤ (stA (l.drop bed)).2.w := by
    have h1 := stA_drop hbl
    have h2 := (stA_bd (l.drop (bed + 1)) (by rw [List.length_drop]; omega) (List.all_eq_true.2 fun x hx => (List.all_eq_true.1 hall) x (List.mem_of_mem_drop hx))).2.1.1
    rw [h1]
    show 1 ≤ _ + (csA l bed).g
    omega
  have c3 := fun W => arms_any (csA l bed) (stA (l.drop bed)).2 p side W hok hce hcn hp hsd
  obtain ⟨hX, hY⟩ := arm_bd (side := side) hok hce hcn hp
  have hwb := hok.1
  generalize armX (csA l bed) (stA (l.drop bed)).2 p side = X at *
  generalize armY (csA l bed) (stA (l.drop bed)).2 p side = Y at *
  have hrow := fun W (h : Below w.heap.size w W) => rows_cs (hx.below h) bed hbl2
  generalize csA l bed = C at *
  generalize (stA (l.drop bed)).2 = Z at *
  obtain ⟨ch, co, ci, cg, ce, cn⟩ := C
  obtain ⟨zw, ze, zn, zh, zp⟩ := Z
  dsimp only at *
  have c4 := fun W => sratio_any X (zw * 9810000) W (by omega) (by omega) hX.1 hX.2
  have c5 := fun W => sratio_any Y (zw * 9810000) W (by omega) (by omega) hY.1 hY.2
  have C1 := Lib.hid c1
  have C2 := Lib.hid c2
  have C3 := Lib.hid c3
  have C4 := Lib.hid c4
  have C5 := Lib.hid c5
  have HR := Lib.hid hrow
  have hblI : (bed : Int) < len := by omega
  clear c1 c2 c3 c4 c5 hx he hv hall hbl hok hsn hrow hg hce hcn hX hY
  generalize lowN X (zw * 9810000) = N1 at *
  generalize lowD X (zw * 9810000) = D1 at *
  generalize lowN Y (zw * 9810000) = N2 at *
  generalize lowD Y (zw * 9810000) = D2 at *
  have hb8 : BoxN ((w.alloc (.cells #[.int .i64 0, .int .i64 0] 34)).alloc (.cells #[.int .i64 0, .int .i64 0] 34)) w.heap.size 34 #[.int .i64 0, .int .i64 0] := (BoxN.new w 34 #[.int .i64 0, .int .i64 0]).block (Below.heap_alloc _ _ _ (by simp))
  have hb9 : BoxN ((w.alloc (.cells #[.int .i64 0, .int .i64 0] 34)).alloc (.cells #[.int .i64 0, .int .i64 0] 34)) (w.heap.size + 1) 34 #[.int .i64 0, .int .i64 0] := by
    have := BoxN.new (w.alloc (.cells #[.int .i64 0, .int .i64 0] 34)) 34 #[.int .i64 0, .int .i64 0]
    rwa [World.size_alloc] at this
  have hB0 : Below w.heap.size w ((w.alloc (.cells #[.int .i64 0, .int .i64 0] 34)).alloc (.cells #[.int .i64 0, .int .i64 0] 34)) := ((Below.refl _ w).alloc (Nat.le_refl _) _).alloc (by simp) _
  have hs0 : ((w.alloc (.cells #[.int .i64 0, .int .i64 0] 34)).alloc (.cells #[.int .i64 0, .int .i64 0] 34)).heap.size = w.heap.size + 1 + 1 := by simp
  go_enter Try.func9, Try.ntmps9
  go_wp2_with fail
  generalize ((w.alloc (.cells #[.int .i64 0, .int .i64 0] 34)).alloc (.cells #[.int .i64 0, .int .i64 0] 34)) = W0 at *
  refine (C1.out _ hB0).mono ?_
  rintro e w1 ⟨rfl, hb⟩
  have h8 := hb8.block (hb.block w.heap.size (by omega))
  have h9 := hb9.block (hb.block (w.heap.size + 1) (by omega))
  have hB1 := hB0.trans (hb.mono hB0.size)
  have hz1 : w.heap.size + 1 < w1.heap.size := h9.lt
  clear hb hb8 hb9 hs0 hB0
  go_wp2_with fail
  refine (C2.out _ hB1).mono ?_
  rintro e w2 ⟨rfl, hb⟩
  replace h8 := h8.block (hb.block w.heap.size (by omega))
  replace h9 := h9.block (hb.block (w.heap.size + 1) (by omega))
  have hB2 := hB1.trans (hb.mono hB1.size)
  have hz2 : w.heap.size + 1 < w2.heap.size := h9.lt
  clear hb hB1 hz1 C2 C1
  have hzb := BoxN.new w2 56 #[.int .i64 zw, .int .i64 ze, .int .i64 zn, .int .i64 zh, .int .i64 zp]
  have hBz : Below w2.heap.size w2 (w2.alloc (.cells #[.int .i64 zw, .int .i64 ze, .int .i64 zn, .int .i64 zh, .int .i64 zp] 56)) := (Below.refl _ _).alloc (Nat.le_refl _) _
  go_upto_region 5 with (fail)
  generalize (w2.alloc (.cells #[.int .i64 zw, .int .i64 ze, .int .i64 zn, .int .i64 zh, .int .i64 zp] 56)) = w3 at *
  replace h8 := h8.block (hBz.block w.heap.size (by omega))
  replace h9 := h9.block (hBz.block (w.heap.size + 1) (by omega))
  have hB3 := hB2.trans (hBz.mono hB2.size)
  have hz3 : w2.heap.size < w3.heap.size := hzb.lt
  have z0 := hzb.cell 0
  have z1 := hzb.cell 1
  have z2 := hzb.cell 2
  have z3 := hzb.cell 3
  have z4 := hzb.cell 4
  simp at z0 z1 z2 z3 z4
  obtain ⟨b, off, rfl, hb0, hc0, hc1, hc2, hc3, hc4, hc5⟩ := HR.out _ hB3
  have hb1 : b < w3.heap.size := by omega
  clear hBz hB2
  refine wp_region_ltg w3.heap.size (by kernel_rfl) ?_
  refine wpG_take (f := 6) (by kernel_rfl) ⟨⟨_, (Below.refl _ _).drew⟩, rfl⟩ [0, 1, 2, 3, 4, 5, 6] _ _ (by kernel_rfl) ?_
  simp only [List.map_cons, List.map_nil, List.getElem?_toArray, List.getElem?_cons_succ, List.getElem?_cons_zero, Option.getD_some]
  repeat (go_big_quiet_step (fail))
  refine wpQuiet_nil ?_
  refine wpG_one (i := 7) (by kernel_rfl) rfl ?_
  refine wpO_yes (by kernel_rfl) ?_
  go_simp
  refine (C3.out _).mono ?_
  rintro e w4 ⟨rfl, hb9⟩
  have hB : Below w3.heap.size w3 w4 := (Below.refl _ _).drew.trans hb9
  have hB4 := hB3.trans (hB.mono (by omega))
  have hs4 := hB.size
  replace h8 := h8.block (hB.block w.heap.size (by omega))
  replace h9 := h9.block (hB.block (w.heap.size + 1) (by omega))
  replace hzb := hzb.block (hB.block w2.heap.size hz3)
  clear hb9
  refine ⟨⟨⟨_, hB⟩, rfl⟩, ?_⟩
  go_simp
  refine wpG_take (f := 0) (by kernel_rfl) ⟨⟨_, hB⟩, rfl⟩ [8, 9, 10, 11, 12] _ _ (by kernel_rfl) ?_
  simp only [List.map_cons, List.map_nil, List.getElem?_toArray, List.getElem?_cons_succ, List.getElem?_cons_zero, Option.getD_some]
  repeat (go_big_quiet_step (fail))
  refine wpQuiet_nil ?_
  refine wpG_done (by kernel_rfl) ?_
  clear z0 z1 z2 z3 z4 hB hB3 hc0 hc1 hc2 hc3 hc4 hc5 hb1 hb0 HR C3
  have hz4 : w2.heap.size < w4.heap.size := hzb.lt
  clear hs4 hz3
  go_upto_region 6 with (fail)
  obtain ⟨S, hS⟩ : ∃ S : Nat → Prop, S = fun q => q = w.heap.size ∨ q = w.heap.size + 1 := ⟨_, rfl⟩
  have hSn : ¬ S w2.heap.size := by rw [hS]; omega
  have hS1 : S w.heap.size := by rw [hS]; exact .inl rfl
  have hS2 : S (w.heap.size + 1) := by rw [hS]; exact .inr rfl
  clear hS
  have z0 := hzb.cell 0
  simp at z0
  refine wp_region_lts w4.heap.size S (by kernel_rfl) ?_
  refine wpG_take (f := 5) (by kernel_rfl) ⟨⟨_, KeepS.of (Below.refl _ _).drew⟩, rfl⟩ [0, 1, 2, 3, 5, 6, 7, 8] _ _ (by kernel_rfl) ?_
  simp only [List.map_cons, List.map_nil, List.getElem?_toArray, List.getElem?_cons_succ, List.getElem?_cons_zero, Option.getD_some]
  repeat (go_big_quiet_step (fail))
  refine wpQuiet_nil ?_
  refine wpG_one (i := 4) (by kernel_rfl) rfl ?_
  refine wpO_yes (by kernel_rfl) ?_
  go_simp
  refine (C4.out _).mono ?_
  rintro e w5 ⟨rfl, hb9⟩
  have hB : Below w4.heap.size w4 w5 := (Below.refl _ _).drew.trans hb9
  have hs5 := hB.size
  have hK5 : KeepS w4.heap.size S w4 w5 := KeepS.of hB
  have hB5 := hB4.trans (hB.mono (by omega))
  replace h8 := h8.block (hB.block w.heap.size (by omega))
  replace h9 := h9.block (hB.block (w.heap.size + 1) (by omega))
  clear hb9 hB
  refine ⟨⟨⟨_, hK5⟩, rfl⟩, ?_⟩
  go_simp
  refine wpG_one (i := 9) (by kernel_rfl) rfl ?_
  refine wpO_yes (by kernel_rfl) ?_
  go_simp
  refine (C5.out _).mono ?_
  rintro e w6 ⟨rfl, hb⟩
  have hB6 := hB5.trans (hb.mono (by omega))
  have hK6 : KeepS w4.heap.size S w4 w6 := hK5.trans (KeepS.of (hb.mono hs5))
  replace h8 := h8.block (hb.block w.heap.size (by omega))
  replace h9 := h9.block (hb.block (w.heap.size + 1) (by omega))
  have hz6 := hb.size
  clear hb hK5
  refine ⟨⟨⟨_, hK6⟩, rfl⟩, ?_⟩
  go_simp
  have a0 := h8.cell 0
  have a1 := h8.cell 1
  have fa0 := h8.frozen 0
  have fa1 := h8.frozen 1
  simp at a0 a1
  refine wpG_one (i := 10) (by kernel_rfl) rfl ?_
  refine wpO_yes (by kernel_rfl) ?_
  go_simp
  have hK7 : KeepS w4.heap.size S w4 ((w6.setCell ⟨w.heap.size, 0, none⟩ (.int .i64 N1)).setCell ⟨w.heap.size, 1, none⟩ (.int .i64 D1)) := hK6.trans (KeepS.set2 hS1)
  have k8 := (h8.set 0 (.int .i64 N1)).set 1 (.int .i64 D1)
  have k9 := (h9.other (b := w.heap.size) (j := 0) (v := .int .i64 N1) (by omega)).other (b := w.heap.size) (j := 1) (v := .int .i64 D1) (by omega)
  have hB7 := (hB6.setCell (p := ⟨w.heap.size, 0, none⟩) (Nat.le_refl _) (.int .i64 N1)).setCell (p := ⟨w.heap.size, 1, none⟩) (Nat.le_refl _) (.int .i64 D1)
  clear a0 a1 fa0 fa1 hB6
  refine ⟨⟨⟨_, hK7⟩, rfl⟩, ?_⟩
  go_simp
  generalize ((w6.setCell ⟨w.heap.size, 0, none⟩ (.int .i64 N1)).setCell ⟨w.heap.size, 1, none⟩ (.int .i64 D1)) = w7 at *
  have b0 := k9.cell 0
  have b1 := k9.cell 1
  have fb0 := k9.frozen 0
  have fb1 := k9.frozen 1
  simp at b0 b1
  refine wpG_one (i := 11) (by kernel_rfl) rfl ?_
  refine wpO_yes (by kernel_rfl) ?_
  go_simp
  have hK8 : KeepS w4.heap.size S w4 ((w7.setCell ⟨w.heap.size + 1, 0, none⟩ (.int .i64 N2)).setCell ⟨w.heap.size + 1, 1, none⟩ (.int .i64 D2)) := hK7.trans (KeepS.set2 hS2)
  have m8 := (k8.other (b := w.heap.size + 1) (j := 0) (v := .int .i64 N2) (by omega)).other (b := w.heap.size + 1) (j := 1) (v := .int .i64 D2) (by omega)
  have m9 := (k9.set 0 (.int .i64 N2)).set 1 (.int .i64 D2)
  have hB8 := (hB7.setCell (p := ⟨w.heap.size + 1, 0, none⟩) (by show w.heap.size ≤ w.heap.size + 1; omega) (.int .i64 N2)).setCell (p := ⟨w.heap.size + 1, 1, none⟩) (by show w.heap.size ≤ w.heap.size + 1; omega) (.int .i64 D2)
  clear b0 b1 fb0 fb1 hB7 k8 k9
  refine ⟨⟨⟨_, hK8⟩, rfl⟩, ?_⟩
  go_simp
  generalize ((w7.setCell ⟨w.heap.size + 1, 0, none⟩ (.int .i64 N2)).setCell ⟨w.heap.size + 1, 1, none⟩ (.int .i64 D2)) = w8 at *
  refine wpG_take (f := 0) (by kernel_rfl) ⟨⟨_, hK8⟩, rfl⟩ [12] _ _ (by kernel_rfl) ?_
  simp only [List.map_cons, List.map_nil, List.getElem?_toArray, List.getElem?_cons_succ, List.getElem?_cons_zero, Option.getD_some]
  repeat (go_big_quiet_step (fail))
  refine wpQuiet_nil ?_
  refine wpG_done (by kernel_rfl) ?_
  clear hK6 hK7 hK8
  have r0 := m8.cell 0
  have r1 := m8.cell 1
  have s0 := m9.cell 0
  have s1 := m9.cell 1
  simp at r0 r1 s0 s1
  go_wp2
  (try simp only [Exit.inBlock, Exit.then])
  refine bodyPost_ret (v := .tuple #[.agg #[.int .i64 N1, .int .i64 D1], .agg #[.int .i64 N2, .int .i64 D2], .int .i64 0]) (by simp [results, Try.results9, go_sem, r0, r1, s0, s1]) rfl ⟨rfl, hB8⟩
end Go.Proofs.Ytfahdgmnlpkaiaa
