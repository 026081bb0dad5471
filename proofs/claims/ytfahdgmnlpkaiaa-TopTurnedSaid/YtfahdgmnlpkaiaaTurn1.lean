/- Turned surveys: Valid, points, Turned of the program; SamePoints. -/
import Derived.Test.YtfahdgmnlpkaiaaTurn0
set_option linter.unusedSimpArgs false
set_option linter.unusedVariables false
namespace Go.Proofs.Ytfahdgmnlpkaiaa
open Go.RowKit
attribute [local go_sem] Later.cell LtN.cell

theorem rgA_yes {p : Nat → Bool} {k : Nat} (h : (List.range k).all p = true) (hp : p k = true) : (List.range (k + 1)).all p = true := by
  rw [List.range_succ, List.all_append, h]; simp [hp]
theorem rgA_no {p : Nat → Bool} {k n : Nat} (h : k < n) (hp : p k = false) : (List.range n).all p = false := by
  rw [List.all_eq_false]
  exact ⟨k, List.mem_range.2 h, by simp [hp]⟩
set_option maxRecDepth 20000 in
set_option maxHeartbeats 4000000 in
theorem mValid_any (A : Option Addr) (len cap : Nat) (l : List Tp) (w : World) (hm : len ≤ 9223372036854775807) (hx : Rows 3 int3 (0,0,0) w w.heap.size A len l) :
    Calls Try.prog 14 #[.slice A len cap] w fun e w' => e = .returned (.bool (vM l)) ∧ Below w.heap.size w w' := by
  have hv : vM l = ((List.range l.length).all (mkX l) && withinB l.length 1 40) := rfl
  rw [hx.1] at hv
  have c9 := fun W => lwithin_any len 1 40 W
  generalize withinB len 1 40 = U at *
  generalize vM l = V at *
  have HV := Lib.hid hv
  have C9 := Lib.hid c9
  have HX := Lib.hid hx
  clear hx hv c9
  go_enter Try.func14, Try.ntmps14
  go_wp2
  go_loopw [7] (fun i wr => ∃ k : Nat, k ≤ len ∧ i = .int .i64 k ∧ Hid ((List.range k).all (mkX l) = true) ∧ Hid (Below w.heap.size w wr)) (fun i _ => len - (intOf i).toNat)
  case atStart => exact ⟨0, Nat.zero_le _, rfl, Lib.hid rfl, Lib.hid (Below.refl _ _)⟩
  case round =>
    obtain ⟨k, hk, rfl, hT, HB⟩ := hrel
    have hws0 := HB.out.size
    by_cases hlt : k < len
    · obtain ⟨b, off, rfl, hb0, hc0, hc1, hc2⟩ := rows_tp (HX.out.below HB.out) k hlt
      have hk1 : (k : Int) < len := by omega
      have c2 := fun W => marked_any (tpA l k).1 (tpA l k).2.1 (tpA l k).2.2 W
      have hmx : mkX l k = (mkB ((tpA l k).1, (tpA l k).2.1, (tpA l k).2.2) && (decide (k = 0) || decide ((tpA l (k - 1)).1 < (tpA l k).1))) := rfl
      have HY := Lib.hid (fun h2 => rgA_yes (p := mkX l) (k := k) hT.out h2)
      have HN := Lib.hid (fun h2 => rgA_no (p := mkX l) (k := k) (n := len) hlt h2)
      by_cases hk0 : k = 0
      · have hd1 : decide (k = 0) = true := decide_eq_true hk0
        rw [hd1, Bool.true_or, Bool.and_true] at hmx
        generalize mkB ((tpA l k).1, (tpA l k).2.1, (tpA l k).2.2) = M at *
        generalize (tpA l k).1 = X at *
        generalize (tpA l k).2.1 = Y at *
        generalize (tpA l k).2.2 = Z at *
        have hwA : (wr.alloc (.cells #[.int .i64 X, .int .i64 Y, .int .i64 Z] 51)).heap.size = wr.heap.size + 1 := by simp
        have hBA : Below wr.heap.size wr (wr.alloc (.cells #[.int .i64 X, .int .i64 Y, .int .i64 Z] 51)) := (Below.refl _ _).alloc (Nat.le_refl _) _
        have qq : ∀ j v, [Value.int .i64 X, .int .i64 Y, .int .i64 Z][j]? = some v → (wr.alloc (.cells #[.int .i64 X, .int .i64 Y, .int .i64 Z] 51)).cell? ⟨wr.heap.size, j, none⟩ = some v := by
          intro j v hj
          match j with
          | 0 => simp at hj; subst hj; go_simp
          | 1 => simp at hj; subst hj; go_simp
          | 2 => simp at hj; subst hj; go_simp
          | j + 3 => simp at hj
        have q0 := qq 0 _ rfl
        have q1 := qq 1 _ rfl
        have q2 := qq 2 _ rfl
        clear qq
        have hws : w.heap.size ≤ (wr.alloc (.cells #[.int .i64 X, .int .i64 Y, .int .i64 Z] 51)).heap.size := by omega
        have hBA' := HB.out.trans (hBA.mono hws0)
        have hb1 : b < (wr.alloc (.cells #[.int .i64 X, .int .i64 Y, .int .i64 Z] 51)).heap.size := by omega
        have hb2 : wr.heap.size < (wr.alloc (.cells #[.int .i64 X, .int .i64 Y, .int .i64 Z] 51)).heap.size := by omega
        have C2 := Lib.hid c2
        subst hk0
        simp only [Nat.zero_mul, Nat.add_zero] at hc0 hc1 hc2
        clear c2 hBA hd1
        cases M
        · have hf : Hid (V = false) := Lib.hid (by rw [HV.out, HN.out hmx]; rfl)
          clear HY HN HV hmx
          clear hwA
          go_wp2_with fail
          generalize (wr.alloc (.cells #[.int .i64 X, .int .i64 Y, .int .i64 Z] 51)) = wA at *
          refine wp_region_ltg wA.heap.size (by kernel_rfl) ?_
          refine wpG_take (f := 17) (by kernel_rfl) ⟨⟨_, (Below.refl _ _).drew⟩, rfl⟩ [0] _ _ (by kernel_rfl) ?_
          simp only [List.map_cons, List.map_nil, List.getElem?_toArray, List.getElem?_cons_succ, List.getElem?_cons_zero, Option.getD_some]
          repeat (go_big_quiet_step (fail))
          refine wpQuiet_nil ?_
          refine wpG_one (i := 1) (by kernel_rfl) rfl ?_
          refine wpO_yes (by kernel_rfl) ?_
          go_simp
          refine (C2.out _).mono ?_
          rintro e w1 ⟨rfl, hb9⟩
          have hB : Below wA.heap.size wA w1 := (Below.refl _ _).drew.trans hb9
          have HB2 := Lib.hid (hBA'.trans (hB.mono hws))
          clear hb9
          refine ⟨⟨⟨_, hB⟩, rfl⟩, ?_⟩
          go_simp
          refine wpG_take (f := 0) (by kernel_rfl) ⟨⟨_, hB⟩, rfl⟩ [2, 3, 4, 5, 6, 7, 8, 9, 10, 11, 12, 13, 14, 15, 16, 17] _ _ (by kernel_rfl) ?_
          simp only [List.map_cons, List.map_nil, List.getElem?_toArray, List.getElem?_cons_succ, List.getElem?_cons_zero, Option.getD_some]
          repeat (go_big_quiet_step (fail))
          refine wpQuiet_nil ?_
          refine wpG_done (by kernel_rfl) ?_
          go_wp2
          go_ret
          exact ⟨ret_bool hf.out.symm, HB2.out⟩
        · have h4 := Lib.hid (HY.out hmx)
          clear HY HN hmx
          clear hwA
          go_wp2_with fail
          generalize (wr.alloc (.cells #[.int .i64 X, .int .i64 Y, .int .i64 Z] 51)) = wA at *
          refine wp_region_ltg wA.heap.size (by kernel_rfl) ?_
          refine wpG_take (f := 17) (by kernel_rfl) ⟨⟨_, (Below.refl _ _).drew⟩, rfl⟩ [0] _ _ (by kernel_rfl) ?_
          simp only [List.map_cons, List.map_nil, List.getElem?_toArray, List.getElem?_cons_succ, List.getElem?_cons_zero, Option.getD_some]
          repeat (go_big_quiet_step (fail))
          refine wpQuiet_nil ?_
          refine wpG_one (i := 1) (by kernel_rfl) rfl ?_
          refine wpO_yes (by kernel_rfl) ?_
          go_simp
          refine (C2.out _).mono ?_
          rintro e w1 ⟨rfl, hb9⟩
          have hB : Below wA.heap.size wA w1 := (Below.refl _ _).drew.trans hb9
          have HB2 := Lib.hid (hBA'.trans (hB.mono hws))
          clear hb9
          refine ⟨⟨⟨_, hB⟩, rfl⟩, ?_⟩
          go_simp
          refine wpG_take (f := 0) (by kernel_rfl) ⟨⟨_, hB⟩, rfl⟩ [2, 3, 4, 5, 6, 7, 8, 9, 10, 11, 12, 13, 14, 15, 16, 17] _ _ (by kernel_rfl) ?_
          simp only [List.map_cons, List.map_nil, List.getElem?_toArray, List.getElem?_cons_succ, List.getElem?_cons_zero, Option.getD_some]
          repeat (go_big_quiet_step (fail))
          refine wpQuiet_nil ?_
          refine wpG_done (by kernel_rfl) ?_
          go_wp2
          go_roundw
          case rel => exact ⟨0 + 1, by omega, by go_num, h4, HB2⟩
          case measure => simp [intOf]; omega
      · obtain ⟨b', off', he, -, hd0, -, -⟩ := rows_tp (HX.out.below HB.out) (k - 1) (by omega)
        cases he
        have hd1 : decide (k = 0) = false := decide_eq_false hk0
        have hg1 : decide (0 < (k : Int)) = true := decide_eq_true (by omega)
        have hg2 : decide (0 < k) = true := decide_eq_true (by omega)
        have hp : ((k - 1 : Nat) : Int) = (k : Int) - 1 := by omega
        have hp1 : k - 1 < len := by omega
        have hp2 : (k : Int) - 1 < len := by omega
        rw [hd1, Bool.false_or] at hmx
        generalize mkB ((tpA l k).1, (tpA l k).2.1, (tpA l k).2.2) = M at *
        generalize (tpA l k).1 = X at *
        generalize (tpA l k).2.1 = Y at *
        generalize (tpA l k).2.2 = Z at *
        generalize (tpA l (k - 1)).1 = P at *
        have hwA : (wr.alloc (.cells #[.int .i64 X, .int .i64 Y, .int .i64 Z] 51)).heap.size = wr.heap.size + 1 := by simp
        have hBA : Below wr.heap.size wr (wr.alloc (.cells #[.int .i64 X, .int .i64 Y, .int .i64 Z] 51)) := (Below.refl _ _).alloc (Nat.le_refl _) _
        have qq : ∀ j v, [Value.int .i64 X, .int .i64 Y, .int .i64 Z][j]? = some v → (wr.alloc (.cells #[.int .i64 X, .int .i64 Y, .int .i64 Z] 51)).cell? ⟨wr.heap.size, j, none⟩ = some v := by
          intro j v hj
          match j with
          | 0 => simp at hj; subst hj; go_simp
          | 1 => simp at hj; subst hj; go_simp
          | 2 => simp at hj; subst hj; go_simp
          | j + 3 => simp at hj
        have q0 := qq 0 _ rfl
        have q1 := qq 1 _ rfl
        have q2 := qq 2 _ rfl
        clear qq
        have hws : w.heap.size ≤ (wr.alloc (.cells #[.int .i64 X, .int .i64 Y, .int .i64 Z] 51)).heap.size := by omega
        have hBA' := HB.out.trans (hBA.mono hws0)
        have hb1 : b < (wr.alloc (.cells #[.int .i64 X, .int .i64 Y, .int .i64 Z] 51)).heap.size := by omega
        have hb2 : wr.heap.size < (wr.alloc (.cells #[.int .i64 X, .int .i64 Y, .int .i64 Z] 51)).heap.size := by omega
        have hd0' := (hBA.cell (p := ⟨b, off + (k - 1) * 3, none⟩) (by show b < wr.heap.size; omega)).trans hd0
        have C2 := Lib.hid c2
        clear c2 hBA hd1 hd0 hp
        cases M
        · have hf : Hid (V = false) := Lib.hid (by rw [HV.out, HN.out hmx]; rfl)
          clear HY HN HV hmx
          clear hwA
          go_wp2_with fail
          generalize (wr.alloc (.cells #[.int .i64 X, .int .i64 Y, .int .i64 Z] 51)) = wA at *
          refine wp_region_ltg wA.heap.size (by kernel_rfl) ?_
          refine wpG_take (f := 17) (by kernel_rfl) ⟨⟨_, (Below.refl _ _).drew⟩, rfl⟩ [0] _ _ (by kernel_rfl) ?_
          simp only [List.map_cons, List.map_nil, List.getElem?_toArray, List.getElem?_cons_succ, List.getElem?_cons_zero, Option.getD_some]
          repeat (go_big_quiet_step (fail))
          refine wpQuiet_nil ?_
          refine wpG_one (i := 1) (by kernel_rfl) rfl ?_
          refine wpO_yes (by kernel_rfl) ?_
          go_simp
          refine (C2.out _).mono ?_
          rintro e w1 ⟨rfl, hb9⟩
          have hB : Below wA.heap.size wA w1 := (Below.refl _ _).drew.trans hb9
          have HB2 := Lib.hid (hBA'.trans (hB.mono hws))
          clear hb9
          refine ⟨⟨⟨_, hB⟩, rfl⟩, ?_⟩
          go_simp
          refine wpG_take (f := 0) (by kernel_rfl) ⟨⟨_, hB⟩, rfl⟩ [2, 3, 4, 5, 6, 7, 8, 9, 10, 11, 12, 13, 14, 15, 16, 17] _ _ (by kernel_rfl) ?_
          simp only [List.map_cons, List.map_nil, List.getElem?_toArray, List.getElem?_cons_succ, List.getElem?_cons_zero, Option.getD_some]
          repeat (go_big_quiet_step (fail))
          refine wpQuiet_nil ?_
          refine wpG_done (by kernel_rfl) ?_
          go_wp2
          go_ret
          exact ⟨ret_bool hf.out.symm, HB2.out⟩
        · by_cases hlp : P < X
          · rw [decide_eq_true hlp] at hmx
            have h4 := Lib.hid (HY.out hmx)
            have hle : decide (X ≤ P) = false := decide_eq_false (by omega)
            clear HY HN hmx
            clear hwA
            go_wp2_with fail
            generalize (wr.alloc (.cells #[.int .i64 X, .int .i64 Y, .int .i64 Z] 51)) = wA at *
            refine wp_region_ltg wA.heap.size (by kernel_rfl) ?_
            refine wpG_take (f := 17) (by kernel_rfl) ⟨⟨_, (Below.refl _ _).drew⟩, rfl⟩ [0] _ _ (by kernel_rfl) ?_
            simp only [List.map_cons, List.map_nil, List.getElem?_toArray, List.getElem?_cons_succ, List.getElem?_cons_zero, Option.getD_some]
            repeat (go_big_quiet_step (fail))
            refine wpQuiet_nil ?_
            refine wpG_one (i := 1) (by kernel_rfl) rfl ?_
            refine wpO_yes (by kernel_rfl) ?_
            go_simp
            refine (C2.out _).mono ?_
            rintro e w1 ⟨rfl, hb9⟩
            have hB : Below wA.heap.size wA w1 := (Below.refl _ _).drew.trans hb9
            have HB2 := Lib.hid (hBA'.trans (hB.mono hws))
            clear hb9
            refine ⟨⟨⟨_, hB⟩, rfl⟩, ?_⟩
            go_simp
            refine wpG_take (f := 0) (by kernel_rfl) ⟨⟨_, hB⟩, rfl⟩ [2, 3, 4, 5, 6, 7, 8, 9, 10, 11, 12, 13, 14, 15, 16, 17] _ _ (by kernel_rfl) ?_
            simp only [List.map_cons, List.map_nil, List.getElem?_toArray, List.getElem?_cons_succ, List.getElem?_cons_zero, Option.getD_some]
            repeat (go_big_quiet_step (fail))
            refine wpQuiet_nil ?_
            refine wpG_done (by kernel_rfl) ?_
            go_wp2
            go_roundw
            case rel => exact ⟨k + 1, by omega, by go_num, h4, HB2⟩
            case measure => simp [intOf]; omega
          · rw [decide_eq_false hlp] at hmx
            have hf : Hid (V = false) := Lib.hid (by rw [HV.out, HN.out hmx]; rfl)
            have hle : decide (X ≤ P) = true := decide_eq_true (by omega)
            clear HY HN HV hmx
            clear hwA
            go_wp2_with fail
            generalize (wr.alloc (.cells #[.int .i64 X, .int .i64 Y, .int .i64 Z] 51)) = wA at *
            refine wp_region_ltg wA.heap.size (by kernel_rfl) ?_
            refine wpG_take (f := 17) (by kernel_rfl) ⟨⟨_, (Below.refl _ _).drew⟩, rfl⟩ [0] _ _ (by kernel_rfl) ?_
            simp only [List.map_cons, List.map_nil, List.getElem?_toArray, List.getElem?_cons_succ, List.getElem?_cons_zero, Option.getD_some]
            repeat (go_big_quiet_step (fail))
            refine wpQuiet_nil ?_
            refine wpG_one (i := 1) (by kernel_rfl) rfl ?_
            refine wpO_yes (by kernel_rfl) ?_
            go_simp
            refine (C2.out _).mono ?_
            rintro e w1 ⟨rfl, hb9⟩
            have hB : Below wA.heap.size wA w1 := (Below.refl _ _).drew.trans hb9
            have HB2 := Lib.hid (hBA'.trans (hB.mono hws))
            clear hb9
            refine ⟨⟨⟨_, hB⟩, rfl⟩, ?_⟩
            go_simp
            refine wpG_take (f := 0) (by kernel_rfl) ⟨⟨_, hB⟩, rfl⟩ [2, 3, 4, 5, 6, 7, 8, 9, 10, 11, 12, 13, 14, 15, 16, 17] _ _ (by kernel_rfl) ?_
            simp only [List.map_cons, List.map_nil, List.getElem?_toArray, List.getElem?_cons_succ, List.getElem?_cons_zero, Option.getD_some]
            repeat (go_big_quiet_step (fail))
            refine wpQuiet_nil ?_
            refine wpG_done (by kernel_rfl) ?_
            go_wp2
            go_ret
            exact ⟨ret_bool hf.out.symm, HB2.out⟩
    · have hkn : k = len := by omega
      have hfin : Hid (V = U) := Lib.hid (by rw [HV.out, ← hkn, hT.out]; rfl)
      clear HV hT
      go_wp2_with (go_at_call 25; refine (C9.out _).mono ?_; rintro e w' ⟨rfl, rfl⟩)
      go_ret
      exact ⟨ret_bool hfin.out.symm, HB.out⟩
end Go.Proofs.Ytfahdgmnlpkaiaa
