/- TopTurned: the walk of the statement. -/
import Derived.Test.YtfahdgmnlpkaiaaStk5
import Derived.Test.YtfahdgmnlpkaiaaTurn4
import Derived.Test.YtfahdgmnlpkaiaaTopA
set_option linter.unusedSimpArgs false
set_option linter.unusedVariables false
namespace Go.Proofs.Ytfahdgmnlpkaiaa
open Go.RowKit
attribute [local go_sem] Later.cell

set_option maxRecDepth 20000 in
set_option maxHeartbeats 32000000 in
theorem turned_walk (A : Option Addr) (len cap : Nat) (l : List Tp) (A' : Option Addr) (len' cap' : Nat) (cs : List Cs) (a b s : Int) (w : World)
    (hm : len ≤ cap ∧ cap ≤ 9223372036854775807) (hx : Rows 3 int3 (0,0,0) w w.heap.size A len l) (_ : ∀ x ∈ l, (-9223372036854775808 ≤ x.1 ∧ x.1 ≤ 9223372036854775807) ∧ (-9223372036854775808 ≤ x.2.1 ∧ x.2.1 ≤ 9223372036854775807) ∧ -9223372036854775808 ≤ x.2.2 ∧ x.2.2 ≤ 9223372036854775807)
    (hm' : len' ≤ cap' ∧ cap' ≤ 9223372036854775807) (hy : Rows 6 c6V dC w w.heap.size A' len' cs) (_ : ∀ x ∈ cs, True)
    (ha : -9223372036854775808 ≤ a ∧ a ≤ 9223372036854775807) (hbb : -9223372036854775808 ≤ b ∧ b ≤ 9223372036854775807) (hs : -9223372036854775808 ≤ s ∧ s ≤ 9223372036854775807) :
    Calls Try.prog 3 #[.slice A len cap, .slice A' len' cap', .agg #[.int .i64 a, .int .i64 b, .int .i64 s]] w fun e w' => e = .returned (.bool true) ∧ Below w.heap.size w w' := by
  have hN0 := BoxN.new w 24 #[.int .i64 a, .int .i64 b, .int .i64 s]
  have hB0 : Below w.heap.size w (w.alloc (.cells #[.int .i64 a, .int .i64 b, .int .i64 s] 24)) := (Below.refl _ w).alloc (Nat.le_refl _) _
  have hs0 : w.heap.size < ((w.alloc (.cells #[.int .i64 a, .int .i64 b, .int .i64 s] 24))).heap.size := by simp
  by_cases h40 : len ≤ 40
  · by_cases h20 : len' ≤ 20
    · have g1 : decide ((40 : Int) < len) = false := decide_eq_false (by omega)
      have g2 : decide ((20 : Int) < len') = false := decide_eq_false (by omega)
      have g3 : ¬ (40 : Int) < len := by omega
      have g4 : ¬ (20 : Int) < len' := by omega
      have HY := Lib.hid hy
      cases hv : vM l
      · have c1 := fun W (h : Below w.heap.size w W) => east_bad A len cap l W (by omega) ((hx.below h).more h.size) hv
        have c2 := fun W (h : Below w.heap.size w W) => mTurned_bad A len cap l W (by omega) ((hx.below h).more h.size) hv
        have D1 := Lib.hid c1
        have D2 := Lib.hid c2
        clear c1 c2 hx hy hv
        go_enter Try.func3, Try.ntmps3
        go_wp2_with fail
        generalize (w.alloc (.cells #[.int .i64 a, .int .i64 b, .int .i64 s] 24)) = W0 at *
        refine (D1.out _ hB0).mono ?_
        rintro e w1 ⟨rfl, hb⟩
        have hB1 := hB0.trans (hb.mono (by omega))
        have hN1 := hN0.block (hb.block w.heap.size (by omega))
        have hs1 := hN1.lt
        clear hb hB0 hN0 hs0
        go_wp2_with fail
        refine (D2.out _ hB1).mono ?_
        rintro e w2 ⟨rfl, hb⟩
        have HB := Lib.hid (hB1.trans (hb.mono (by omega)))
        have HN := Lib.hid (hN1.block (hb.block w.heap.size (by omega)))
        have hws : w.heap.size ≤ w2.heap.size := by have := HN.out.lt; omega
        have hws' : w.heap.size < w2.heap.size := HN.out.lt
        clear hb hB1 hN1 hs1 D1 D2
        by_cases hE : winE cs a b s = 0
        · obtain ⟨hvS, hbd, hpp, hss⟩ := winE_ok hE
          obtain ⟨bed, rfl⟩ : ∃ bed : Nat, a = (bed : Int) := ⟨a.toNat, by omega⟩
          have hbl : bed < cs.length := by have := HY.out.1; omega
          have hall : cs.all sndC = true := by unfold vS at hvS; rw [Bool.and_eq_true] at hvS; exact hvS.2
          have c1 := fun W (h : Below w.heap.size w W) => arm_ok A' len' cap' cs bed b s W (by omega) ((HY.out.below h).more h.size) hE
          have c2 := fun W (h : Below w.heap.size w W) => cTurned_any A' len' cap' cs W (by omega) ((HY.out.below h).more h.size) hvS
          have hE2 : winE (cs.map turnC) (bed : Int) b ((s + 1) % 4) = 0 := by
            unfold winE askS
            rw [vS_turn, List.length_map, hvS, if_pos rfl, withinB_iff.2 hbd, if_pos rfl, if_pos rfl, withinB_iff.2 hpp, withinB_iff.2 (show (0 : Int) ≤ (s + 1) % 4 ∧ (s + 1) % 4 ≤ 3 by omega)]; rfl
          have c3 := fun A7 k7 W (h : Rows 6 c6V dC W W.heap.size A7 len' (cs.map turnC)) => arm_ok A7 len' k7 (cs.map turnC) bed b ((s + 1) % 4) W (by omega) h hE2
          have hdr : stA ((cs.map turnC).drop bed) = ((stA (cs.drop bed)).1, ⟨(stA (cs.drop bed)).2.w, -(stA (cs.drop bed)).2.n, (stA (cs.drop bed)).2.e, (stA (cs.drop bed)).2.h, (stA (cs.drop bed)).2.p⟩) := by
            rw [← List.map_drop, stA_turn]
          obtain ⟨ht1, ht2⟩ := arm_turn (csA cs bed) (stA (cs.drop bed)).2 b hss
          have hok : abOk (stA (cs.drop bed)).2 := stA_ok (by rw [List.length_drop]; have := HY.out.1; omega) (List.all_eq_true.2 fun x hx => (List.all_eq_true.1 hall) x (List.mem_of_mem_drop hx))
          have hsn : sndC (csA cs bed) = true := by rw [csA_get hbl]; exact (List.all_eq_true.1 hall) _ (List.getElem_mem hbl)
          obtain ⟨-, -, -, -, hg, hce, hcn⟩ := sndC_spec hsn
          have hw1 : 1 ≤ (stA (cs.drop bed)).2.w := by
            have h1 := stA_drop hbl
            have h2 := (stA_bd (cs.drop (bed + 1)) (by rw [List.length_drop]; have := HY.out.1; omega) (List.all_eq_true.2 fun x hx => (List.all_eq_true.1 hall) x (List.mem_of_mem_drop hx))).2.1.1
            rw [h1]
            show 1 ≤ _ + (csA cs bed).g
            omega
          obtain ⟨-, hYb⟩ := arm_bd (side := s) hok hce hcn hpp
          rw [csA_turn hbl, hdr] at c3
          dsimp only at c3
          rw [ht1, ht2] at c3
          generalize armX (csA cs bed) (stA (cs.drop bed)).2 b s = X at *
          generalize armY (csA cs bed) (stA (cs.drop bed)).2 b s = Y at *
          generalize (stA (cs.drop bed)).2.w = WW at *
          obtain ⟨hn1, hn2⟩ := low_neg Y (WW * 9810000) (by omega)
          rw [hn1, hn2] at c3
          have hab := lowN_abs Y (WW * 9810000) (by omega)
          have hN2 : -4611686018427387904 ≤ lowN Y (WW * 9810000) ∧ lowN Y (WW * 9810000) ≤ 4611686018427387904 := by omega
          generalize lowN X (WW * 9810000) = N1 at *
          generalize lowD X (WW * 9810000) = D1 at *
          generalize lowN Y (WW * 9810000) = N2 at *
          generalize lowD Y (WW * 9810000) = D2 at *
          generalize hs4 : (s + 1) % 4 = s4 at *
          have C1 := Lib.hid c1
          have C2 := Lib.hid c2
          have C3 := Lib.hid c3
          have hn0 := HN.out.cell 0
          have hn1' := HN.out.cell 1
          have hn2' := HN.out.cell 2
          simp at hn0 hn1' hn2'
          have hcl : len' = (cs.map turnC).length := by rw [List.length_map]; exact HY.out.1.symm
          have HCL := Lib.hid hcl
          clear c1 c2 c3 hE hE2 hdr ht1 ht2 hok hsn hg hce hcn hw1 hYb hn1 hn2 hab hvS hall hbl hcl hbd
          go_wp2_with fail
          refine (C1.out _ HB.out).mono ?_
          rintro e v1 ⟨rfl, hb⟩
          have hBv := HB.out.trans (hb.mono hws)
          have hNv := HN.out.block (hb.block w.heap.size (by omega))
          have hvs := hb.size
          clear hb hn0 hn1' hn2' C1
          have hR1 := BoxN.new v1 34 #[.int .i64 N1, .int .i64 D1]
          have hR2 := BoxN.new (v1.alloc (.cells #[.int .i64 N1, .int .i64 D1] 34)) 34 #[.int .i64 N2, .int .i64 D2]
          rw [World.size_alloc] at hR2
          replace hR1 := hR1.block (W' := (v1.alloc (.cells #[.int .i64 N1, .int .i64 D1] 34)).alloc (.cells #[.int .i64 N2, .int .i64 D2] 34)) (Below.heap_alloc _ _ _ (by simp))
          have hBr : Below v1.heap.size v1 ((v1.alloc (.cells #[.int .i64 N1, .int .i64 D1] 34)).alloc (.cells #[.int .i64 N2, .int .i64 D2] 34)) := ((Below.refl _ _).alloc (Nat.le_refl _) _).alloc (by simp) _
          have hwv : w.heap.size ≤ v1.heap.size := by omega
          go_wp2_with fail
          generalize ((v1.alloc (.cells #[.int .i64 N1, .int .i64 D1] 34)).alloc (.cells #[.int .i64 N2, .int .i64 D2] 34)) = v2 at *
          have hB2 := hBv.trans (hBr.mono hwv)
          have hN2' := hNv.block (hBr.block w.heap.size (by omega))
          have hR2l := hR2.lt
          refine (C2.out _ hB2).mono ?_
          rintro e v3 ⟨⟨vv, rfl, ho⟩, hb⟩
          have hB3 := hB2.trans (hb.mono (by omega))
          have hN3 := hN2'.block (hb.block w.heap.size (by omega))
          replace hR1 := hR1.block (hb.block v1.heap.size (by omega))
          replace hR2 := hR2.block (hb.block (v1.heap.size + 1) (by omega))
          have hR2m := hR2.lt
          obtain ⟨A7, k7, rfl, -, -, hR7, -⟩ := own_rows (f := c6V) (c := 6) (d := dC) (fun _ => rfl) ho HCL.out.symm
          have HR7 := Lib.hid hR7
          have hn0 := hN3.cell 0
          have hn1' := hN3.cell 1
          have hn2' := hN3.cell 2
          simp at hn0 hn1' hn2'
          clear hb ho hR7 hBr hB2 hN2' hR2l C2 hNv hBv
          rcases (by omega : s = 0 ∨ s = 1 ∨ s = 2 ∨ s = 3) with rfl | rfl | rfl | rfl
          all_goals
            obtain rfl := hs4
            simp only [Int.reduceAdd, Int.reduceMod, Int.zero_add] at C3
            go_wp2_with fail
            refine (C3.out _ _ _ HR7.out).mono ?_
            rintro e v4 ⟨rfl, hb⟩
            have hB4 := hB3.trans (hb.mono (by omega))
            have r1 := (hR1.block (hb.block v1.heap.size (by omega)))
            have r2 := (hR2.block (hb.block (v1.heap.size + 1) (by omega)))
            have hl1 := r1.lt
            have hl2 := r2.lt
            have x0 := r1.cell 0
            have x1 := r1.cell 1
            have y0 := r2.cell 0
            have y1 := r2.cell 1
            simp at x0 x1 y0 y1
            clear hb hB3 hR1 hR2 HR7 C3 hn0 hn1' hn2' r1 r2
            go_wp2_with (go_at_call 4; refine (awake5_any _).mono ?_; rintro e w8 ⟨rfl, hb8⟩)
            go_ret
            exact ⟨rfl, by repeat (first | assumption | exact Below.refl _ _ | exact hB4 | refine Below.trans ?_ (hb8.mono (by simp; omega)) | refine Below.alloc ?_ (by first | (simp; done) | (simp; omega) | omega) _)⟩
        · have c1 := fun W (h : Below w.heap.size w W) => arm_err A' len' cap' cs a b s W (by omega) ((HY.out.below h).more h.size) hE
          generalize winE cs a b s = E at *
          have hE2 : (E == 0) = false := beq_eq_false_iff_ne.2 hE
          have C1 := Lib.hid c1
          have hn0 := HN.out.cell 0
          have hn1' := HN.out.cell 1
          have hn2' := HN.out.cell 2
          simp at hn0 hn1' hn2'
          clear c1 hE
          go_wp2_with fail
          refine (C1.out _ HB.out).mono ?_
          rintro e v1 ⟨rfl, hb⟩
          have hBv := HB.out.trans (hb.mono hws)
          have hvs := hb.size
          have hwv : w.heap.size ≤ v1.heap.size := by omega
          clear hb hn0 hn1' hn2' C1
          go_wp2_with (go_at_call 4; refine (awake5_any _).mono ?_; rintro e w8 ⟨rfl, hb8⟩)
          go_ret
          exact ⟨rfl, by repeat (first | assumption | exact hBv | refine Below.trans ?_ (hb8.mono (by simp; omega)) | refine Below.alloc ?_ (by first | (simp; done) | (simp; omega) | omega) _)⟩
      · have c1 := fun W (h : Below w.heap.size w W) => East_any A len cap l W (by omega) ((hx.below h).more h.size) hv
        have c2 := fun W (h : Below w.heap.size w W) => mTurned_any A len cap l W (by omega) ((hx.below h).more h.size) hv
        have hv2 : vM (l.map tuM) = true := by rw [vM_tu]; exact hv
        have c3 := fun A5 k5 W (h : Rows 3 int3 (0,0,0) W W.heap.size A5 len (l.map tuM)) => North_any A5 len k5 (l.map tuM) W (by omega) h hv2
        rw [north_tu] at c3
        have D1 := Lib.hid c1
        have D2 := Lib.hid c2
        have D3 := Lib.hid c3
        clear c1 c2 c3 hx hy hv hv2
        go_enter Try.func3, Try.ntmps3
        go_wp2_with fail
        generalize (w.alloc (.cells #[.int .i64 a, .int .i64 b, .int .i64 s] 24)) = W0 at *
        refine (D1.out _ hB0).mono ?_
        rintro e w1 ⟨⟨q1, rfl, ho1⟩, hb⟩
        obtain ⟨A4, k4, rfl, -, -, hP4, -⟩ := own_pairs ho1
        have HP4 := Lib.hid hP4
        have hB1 := hB0.trans (hb.mono (by omega))
        have hN1 := hN0.block (hb.block w.heap.size (by omega))
        have hs1 := hN1.lt
        clear hb hB0 hN0 hs0 ho1 hP4
        go_wp2_with fail
        refine (D2.out _ hB1).mono ?_
        rintro e w2 ⟨⟨q2, rfl, ho2⟩, hb⟩
        obtain ⟨A5, k5, rfl, -, -, hP5, -⟩ := own_tapes ho2
        have HP5 := Lib.hid hP5
        have hB2 := hB1.trans (hb.mono (by omega))
        have hN2 := hN1.block (hb.block w.heap.size (by omega))
        have hs2 := hN2.lt
        replace HP4 := Lib.hid ((HP4.out.below hb).more hb.size)
        clear hb hB1 hN1 hs1 ho2 hP5
        go_wp2_with fail
        refine (D3.out _ _ _ HP5.out).mono ?_
        rintro e w3 ⟨⟨q3, rfl, ho3⟩, hb⟩
        obtain ⟨A6, k6, rfl, -, -, hP6, -⟩ := own_pairs ho3
        have hB3 := hB2.trans (hb.mono (by omega))
        have hN3 := hN2.block (hb.block w.heap.size (by omega))
        have hs3 := hN3.lt
        replace HP4 := Lib.hid ((HP4.out.below hb).more hb.size)
        have D4 := Lib.hid (samePts_any A4 len k4 (l.map eaM) A6 k6 w3 (by omega) HP4.out hP6)
        clear hb hB2 hN2 hs2 ho3 hP6 HP4 HP5
        go_wp2_with fail
        refine D4.out.mono ?_
        rintro e w4 ⟨rfl, hb⟩
        have HB := Lib.hid (hB3.trans (hb.mono (by omega)))
        have HN := Lib.hid (hN3.block (hb.block w.heap.size (by omega)))
        have hws : w.heap.size ≤ w4.heap.size := by have := HN.out.lt; omega
        have hws' : w.heap.size < w4.heap.size := HN.out.lt
        clear hb hB3 hN3 hs3 D1 D2 D3 D4
        by_cases hE : winE cs a b s = 0
        · obtain ⟨hvS, hbd, hpp, hss⟩ := winE_ok hE
          obtain ⟨bed, rfl⟩ : ∃ bed : Nat, a = (bed : Int) := ⟨a.toNat, by omega⟩
          have hbl : bed < cs.length := by have := HY.out.1; omega
          have hall : cs.all sndC = true := by unfold vS at hvS; rw [Bool.and_eq_true] at hvS; exact hvS.2
          have c1 := fun W (h : Below w.heap.size w W) => arm_ok A' len' cap' cs bed b s W (by omega) ((HY.out.below h).more h.size) hE
          have c2 := fun W (h : Below w.heap.size w W) => cTurned_any A' len' cap' cs W (by omega) ((HY.out.below h).more h.size) hvS
          have hE2 : winE (cs.map turnC) (bed : Int) b ((s + 1) % 4) = 0 := by
            unfold winE askS
            rw [vS_turn, List.length_map, hvS, if_pos rfl, withinB_iff.2 hbd, if_pos rfl, if_pos rfl, withinB_iff.2 hpp, withinB_iff.2 (show (0 : Int) ≤ (s + 1) % 4 ∧ (s + 1) % 4 ≤ 3 by omega)]; rfl
          have c3 := fun A7 k7 W (h : Rows 6 c6V dC W W.heap.size A7 len' (cs.map turnC)) => arm_ok A7 len' k7 (cs.map turnC) bed b ((s + 1) % 4) W (by omega) h hE2
          have hdr : stA ((cs.map turnC).drop bed) = ((stA (cs.drop bed)).1, ⟨(stA (cs.drop bed)).2.w, -(stA (cs.drop bed)).2.n, (stA (cs.drop bed)).2.e, (stA (cs.drop bed)).2.h, (stA (cs.drop bed)).2.p⟩) := by
            rw [← List.map_drop, stA_turn]
          obtain ⟨ht1, ht2⟩ := arm_turn (csA cs bed) (stA (cs.drop bed)).2 b hss
          have hok : abOk (stA (cs.drop bed)).2 := stA_ok (by rw [List.length_drop]; have := HY.out.1; omega) (List.all_eq_true.2 fun x hx => (List.all_eq_true.1 hall) x (List.mem_of_mem_drop hx))
          have hsn : sndC (csA cs bed) = true := by rw [csA_get hbl]; exact (List.all_eq_true.1 hall) _ (List.getElem_mem hbl)
          obtain ⟨-, -, -, -, hg, hce, hcn⟩ := sndC_spec hsn
          have hw1 : 1 ≤ (stA (cs.drop bed)).2.w := by
            have h1 := stA_drop hbl
            have h2 := (stA_bd (cs.drop (bed + 1)) (by rw [List.length_drop]; have := HY.out.1; omega) (List.all_eq_true.2 fun x hx => (List.all_eq_true.1 hall) x (List.mem_of_mem_drop hx))).2.1.1
            rw [h1]
            show 1 ≤ _ + (csA cs bed).g
            omega
          obtain ⟨-, hYb⟩ := arm_bd (side := s) hok hce hcn hpp
          rw [csA_turn hbl, hdr] at c3
          dsimp only at c3
          rw [ht1, ht2] at c3
          generalize armX (csA cs bed) (stA (cs.drop bed)).2 b s = X at *
          generalize armY (csA cs bed) (stA (cs.drop bed)).2 b s = Y at *
          generalize (stA (cs.drop bed)).2.w = WW at *
          obtain ⟨hn1, hn2⟩ := low_neg Y (WW * 9810000) (by omega)
          rw [hn1, hn2] at c3
          have hab := lowN_abs Y (WW * 9810000) (by omega)
          have hN2 : -4611686018427387904 ≤ lowN Y (WW * 9810000) ∧ lowN Y (WW * 9810000) ≤ 4611686018427387904 := by omega
          generalize lowN X (WW * 9810000) = N1 at *
          generalize lowD X (WW * 9810000) = D1 at *
          generalize lowN Y (WW * 9810000) = N2 at *
          generalize lowD Y (WW * 9810000) = D2 at *
          generalize hs4 : (s + 1) % 4 = s4 at *
          have C1 := Lib.hid c1
          have C2 := Lib.hid c2
          have C3 := Lib.hid c3
          have hn0 := HN.out.cell 0
          have hn1' := HN.out.cell 1
          have hn2' := HN.out.cell 2
          simp at hn0 hn1' hn2'
          have hcl : len' = (cs.map turnC).length := by rw [List.length_map]; exact HY.out.1.symm
          have HCL := Lib.hid hcl
          clear c1 c2 c3 hE hE2 hdr ht1 ht2 hok hsn hg hce hcn hw1 hYb hn1 hn2 hab hvS hall hbl hcl hbd
          go_wp2_with fail
          refine (C1.out _ HB.out).mono ?_
          rintro e v1 ⟨rfl, hb⟩
          have hBv := HB.out.trans (hb.mono hws)
          have hNv := HN.out.block (hb.block w.heap.size (by omega))
          have hvs := hb.size
          clear hb hn0 hn1' hn2' C1
          have hR1 := BoxN.new v1 34 #[.int .i64 N1, .int .i64 D1]
          have hR2 := BoxN.new (v1.alloc (.cells #[.int .i64 N1, .int .i64 D1] 34)) 34 #[.int .i64 N2, .int .i64 D2]
          rw [World.size_alloc] at hR2
          replace hR1 := hR1.block (W' := (v1.alloc (.cells #[.int .i64 N1, .int .i64 D1] 34)).alloc (.cells #[.int .i64 N2, .int .i64 D2] 34)) (Below.heap_alloc _ _ _ (by simp))
          have hBr : Below v1.heap.size v1 ((v1.alloc (.cells #[.int .i64 N1, .int .i64 D1] 34)).alloc (.cells #[.int .i64 N2, .int .i64 D2] 34)) := ((Below.refl _ _).alloc (Nat.le_refl _) _).alloc (by simp) _
          have hwv : w.heap.size ≤ v1.heap.size := by omega
          go_wp2_with fail
          generalize ((v1.alloc (.cells #[.int .i64 N1, .int .i64 D1] 34)).alloc (.cells #[.int .i64 N2, .int .i64 D2] 34)) = v2 at *
          have hB2 := hBv.trans (hBr.mono hwv)
          have hN2' := hNv.block (hBr.block w.heap.size (by omega))
          have hR2l := hR2.lt
          refine (C2.out _ hB2).mono ?_
          rintro e v3 ⟨⟨vv, rfl, ho⟩, hb⟩
          have hB3 := hB2.trans (hb.mono (by omega))
          have hN3 := hN2'.block (hb.block w.heap.size (by omega))
          replace hR1 := hR1.block (hb.block v1.heap.size (by omega))
          replace hR2 := hR2.block (hb.block (v1.heap.size + 1) (by omega))
          have hR2m := hR2.lt
          obtain ⟨A7, k7, rfl, -, -, hR7, -⟩ := own_rows (f := c6V) (c := 6) (d := dC) (fun _ => rfl) ho HCL.out.symm
          have HR7 := Lib.hid hR7
          have hn0 := hN3.cell 0
          have hn1' := hN3.cell 1
          have hn2' := hN3.cell 2
          simp at hn0 hn1' hn2'
          clear hb ho hR7 hBr hB2 hN2' hR2l C2 hNv hBv
          rcases (by omega : s = 0 ∨ s = 1 ∨ s = 2 ∨ s = 3) with rfl | rfl | rfl | rfl
          all_goals
            obtain rfl := hs4
            simp only [Int.reduceAdd, Int.reduceMod, Int.zero_add] at C3
            go_wp2_with fail
            refine (C3.out _ _ _ HR7.out).mono ?_
            rintro e v4 ⟨rfl, hb⟩
            have hB4 := hB3.trans (hb.mono (by omega))
            have r1 := (hR1.block (hb.block v1.heap.size (by omega)))
            have r2 := (hR2.block (hb.block (v1.heap.size + 1) (by omega)))
            have hl1 := r1.lt
            have hl2 := r2.lt
            have x0 := r1.cell 0
            have x1 := r1.cell 1
            have y0 := r2.cell 0
            have y1 := r2.cell 1
            simp at x0 x1 y0 y1
            clear hb hB3 hR1 hR2 HR7 C3 hn0 hn1' hn2' r1 r2
            go_wp2_with (go_at_call 4; refine (awake5_any _).mono ?_; rintro e w8 ⟨rfl, hb8⟩)
            go_ret
            exact ⟨rfl, by repeat (first | assumption | exact Below.refl _ _ | exact hB4 | refine Below.trans ?_ (hb8.mono (by simp; omega)) | refine Below.alloc ?_ (by first | (simp; done) | (simp; omega) | omega) _)⟩
        · have c1 := fun W (h : Below w.heap.size w W) => arm_err A' len' cap' cs a b s W (by omega) ((HY.out.below h).more h.size) hE
          generalize winE cs a b s = E at *
          have hE2 : (E == 0) = false := beq_eq_false_iff_ne.2 hE
          have C1 := Lib.hid c1
          have hn0 := HN.out.cell 0
          have hn1' := HN.out.cell 1
          have hn2' := HN.out.cell 2
          simp at hn0 hn1' hn2'
          clear c1 hE
          go_wp2_with fail
          refine (C1.out _ HB.out).mono ?_
          rintro e v1 ⟨rfl, hb⟩
          have hBv := HB.out.trans (hb.mono hws)
          have hvs := hb.size
          have hwv : w.heap.size ≤ v1.heap.size := by omega
          clear hb hn0 hn1' hn2' C1
          go_wp2_with (go_at_call 4; refine (awake5_any _).mono ?_; rintro e w8 ⟨rfl, hb8⟩)
          go_ret
          exact ⟨rfl, by repeat (first | assumption | exact hBv | refine Below.trans ?_ (hb8.mono (by simp; omega)) | refine Below.alloc ?_ (by first | (simp; done) | (simp; omega) | omega) _)⟩
    · have g1 : decide ((40 : Int) < len) = false := decide_eq_false (by omega)
      have g2 : (20 : Int) < len' := by omega
      clear hx hy
      go_enter Try.func3, Try.ntmps3
      go_wp2_with (go_at_call 4; refine (awake5_any _).mono ?_; rintro e w8 ⟨rfl, hb8⟩)
      go_ret
      exact ⟨rfl, hB0.trans (hb8.mono (by omega))⟩
  · have g1 : (40 : Int) < len := by omega
    clear hx hy
    go_enter Try.func3, Try.ntmps3
    go_wp2_with (go_at_call 4; refine (awake5_any _).mono ?_; rintro e w8 ⟨rfl, hb8⟩)
    go_ret
    exact ⟨rfl, hB0.trans (hb8.mono (by omega))⟩
end Go.Proofs.Ytfahdgmnlpkaiaa
