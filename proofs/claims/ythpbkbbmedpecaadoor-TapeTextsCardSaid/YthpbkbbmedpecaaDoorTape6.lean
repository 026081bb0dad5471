/- Tapes: the part of a net that is joined to a node. -/
import Derived.Test.YthpbkbbmedpecaaDoorTape3
import Derived.Test.YthpbkbbmedpecaaDoorNetS
import Derived.Test.YthpbkbbmedpecaaDoorOwnT
set_option linter.unusedSimpArgs false
set_option linter.unusedVariables false
namespace Go.Proofs.YthpbkbbmedpecaaDoor
open Go.RowKit
attribute [local go_sem] Later.cell Same.cell

/-- The tapes among the first k that are joined to a node of label c. -/
def nearK (R : List Int) (c : Int) (l : List Tp) (k : Nat) : List Tp := (l.take k).filter fun t => at6 R t.1 == c
/-- Their numbers. -/
def nearI (R : List Int) (c : Int) (l : List Tp) (k : Nat) : List Int := ((List.range k).filter fun i => at6 R (tpA l i).1 == c).map fun i : Nat => (i : Int)
theorem nearK_yes {R : List Int} {c : Int} {l : List Tp} {k : Nat} (hk : k < l.length) (h : at6 R (tpA l k).1 = c) : nearK R c l (k + 1) = nearK R c l k ++ [tpA l k] ∧ nearI R c l (k + 1) = nearI R c l k ++ [(k : Int)] := by
  constructor
  · unfold nearK
    rw [take_snoc hk, List.filter_append]
    simp [h]
  · simp [nearI, List.range_succ, List.filter_append, h]
theorem nearK_no {R : List Int} {c : Int} {l : List Tp} {k : Nat} (hk : k < l.length) (h : at6 R (tpA l k).1 ≠ c) : nearK R c l (k + 1) = nearK R c l k ∧ nearI R c l (k + 1) = nearI R c l k := by
  constructor
  · unfold nearK
    rw [take_snoc hk, List.filter_append]
    simp [h]
  · simp [nearI, List.range_succ, List.filter_append, h]
theorem nearK_len (R : List Int) (c : Int) (l : List Tp) (k : Nat) : (nearK R c l k).length ≤ l.length := Nat.le_trans (List.length_filter_le ..) (by rw [List.length_take]; omega)
theorem nearI_len (R : List Int) (c : Int) (l : List Tp) (k : Nat) : (nearI R c l k).length ≤ k := by
  have := List.length_filter_le (fun i => at6 R (tpA l i).1 == c) (List.range k)
  simpa [nearI] using this
/-- How many of the first k labels are c. -/
def cntK (R : List Int) (c : Int) : Nat → Nat
  | 0 => 0
  | k + 1 => cntK R c k + if num R k = c then 1 else 0
theorem cntK_six (R : List Int) (c : Int) : cntK R c 6 = cnt6 fun x => at6 R x = c := by
  show 0 + _ + _ + _ + _ + _ + _ = _
  unfold cnt6 one6
  rw [Nat.zero_add]
  rfl
theorem cntK_le (R : List Int) (c : Int) : ∀ k, cntK R c k ≤ k := by
  intro k
  induction k with
  | zero => exact Nat.le_refl _
  | succ k ih => show _ + _ ≤ _; split <;> omega
theorem jk_full {l : List Tp} : (jk l (2 ^ l.length - 1) l.length).1 = full l R0 := by rw [jk_all, run_full]
theorem info_tape : (Tryd.prog.info? 34).map (fun i => (i.zero, i.size, i.bytes)) = some (some (.agg #[.int .i64 0, .int .i64 0, .int .i64 0]), 3, 24) := by kernel_rfl
theorem tinfo_int : (Tryd.prog.info? 3).map (fun i => (i.zero, i.size, i.bytes)) = some (some (.int .i64 0), 1, 8) := by kernel_rfl
def NR (w1 : World) (R : List Int) (c : Int) (l : List Tp) (n : Nat) (i v u : Value) (W : World) : Prop :=
  ∃ k : Nat, k ≤ n ∧ i = .int .i64 k ∧ W.ownsRow (w1.heap.size + 1) 34 3 v (nearK R c l k).length (tcells (nearK R c l k)) ∧ W.ownsRow (w1.heap.size + 1) 3 1 u (nearI R c l k).length (icells (nearI R c l k)) ∧ Below w1.heap.size w1 W ∧ Arr W w1.heap.size R
theorem NR.mk {w1 : World} {R : List Int} {c : Int} {l : List Tp} {n : Nat} {i v u : Value} {W : World} (k : Nat) (h1 : k ≤ n) (h2 : i = .int .i64 k) (h3 : W.ownsRow (w1.heap.size + 1) 34 3 v (nearK R c l k).length (tcells (nearK R c l k))) (h4 : W.ownsRow (w1.heap.size + 1) 3 1 u (nearI R c l k).length (icells (nearI R c l k))) (h5 : Below w1.heap.size w1 W) (h6 : Arr W w1.heap.size R) : NR w1 R c l n i v u W := ⟨k, h1, h2, h3, h4, h5, h6⟩
theorem arr_blk (w1 : World) {R : List Int} (hR : R.length = 6) (t : TypeId) : Arr (w1.alloc (.cells #[.int .i64 (num R 0), .int .i64 (num R 1), .int .i64 (num R 2), .int .i64 (num R 3), .int .i64 (num R 4), .int .i64 (num R 5)] t)) w1.heap.size R := by
  refine ⟨by simp, hR, fun x hx => ⟨?_, World.frozen?_alloc_at _ _ _ _ rfl⟩⟩
  rw [World.cell?_alloc_at _ _ _ _ rfl]
  have : x = 0 ∨ x = 1 ∨ x = 2 ∨ x = 3 ∨ x = 4 ∨ x = 5 := by omega
  rcases this with rfl | rfl | rfl | rfl | rfl | rfl <;> rfl
set_option maxRecDepth 20000 in
set_option maxHeartbeats 4000000 in
theorem near_any (A : Option Addr) (len cap : Nat) (l : List Tp) (a : Int) (w : World) (hm : len ≤ 10) (ha : nod a) (hx : Rows 3 int3 (0,0,0) w w.heap.size A len l) (hl : okL l) :
    Calls Tryd.prog 44 #[.slice A len cap, .int .i64 a] w fun e w' => (∃ v u, e = .returned (.tuple #[v, u, .int .i64 ((cntK (jk l (2 ^ len - 1) len).1 (at6 (jk l (2 ^ len - 1) len).1 a) 6 : Int) - 1)]) ∧
      w'.ownsRow w.heap.size 34 3 v (nearK (jk l (2 ^ len - 1) len).1 (at6 (jk l (2 ^ len - 1) len).1 a) l len).length (tcells (nearK (jk l (2 ^ len - 1) len).1 (at6 (jk l (2 ^ len - 1) len).1 a) l len)) ∧
      w'.ownsRow w.heap.size 3 1 u (nearI (jk l (2 ^ len - 1) len).1 (at6 (jk l (2 ^ len - 1) len).1 a) l len).length (icells (nearI (jk l (2 ^ len - 1) len).1 (at6 (jk l (2 ^ len - 1) len).1 a) l len))) ∧ Below w.heap.size w w' := by
  have c1 := fun W => whole_any A len cap W hm
  have hpw : 1 ≤ 2 ^ len ∧ 2 ^ len ≤ 1024 := ⟨Nat.pow_pos (by decide), Nat.pow_le_pow_right (by decide) hm⟩
  have c2 := joined_any A len cap l (2 ^ len - 1) w hm (by omega) hx hl
  have hR : (jk l (2 ^ len - 1) len).1.length = 6 := by unfold jk; rw [run_len]; rfl
  have hll := hx.1
  obtain ⟨i0, hi, hz0, hz1, hz2⟩ := info_parts tinfo_int
  obtain ⟨j0, hj, hy0, hy1, hy2⟩ := info_parts info_tape
  have hI0 := Lib.hid hi
  have hI1 := Lib.hid hz0
  have hI2 := Lib.hid hz1
  have hI3 := Lib.hid hz2
  have hJ0 := Lib.hid hj
  have hJ1 := Lib.hid hy0
  have hJ2 := Lib.hid hy1
  have hJ3 := Lib.hid hy2
  generalize jk l (2 ^ len - 1) len = q at *
  obtain ⟨R, qt⟩ := q
  dsimp only at *
  generalize hc : at6 R a = c at *
  have hcK := Lib.hid hc
  have C1 := Lib.hid c1
  have C2 := Lib.hid c2
  have HX := Lib.hid hx
  have HL := Lib.hid hll
  have HR := Lib.hid hR
  unfold arrV at C2
  generalize 2 ^ len = N at *
  clear c1 c2 hx hll hi hz0 hz1 hz2 hj hy0 hy1 hy2 hc hR
  go_enter Tryd.func44, Tryd.ntmps44
  go_wp2_with (first | (go_at_call 43; refine (C1.out _).mono ?_; rintro e w' ⟨rfl, rfl⟩) | (go_at_call 42; refine C2.out.mono ?_; rintro e w1 ⟨rfl, hb1⟩))
  have hA0 := arr_blk w1 HR.out 80
  have HA0 := Lib.hid hA0
  clear hA0
  have hs1 := hb1.size
  go_loopw [22, 4, 5] (fun i v u W => NR w1 R c l len i v u W) (fun i _ _ _ => len - (intOf i).toNat)
  case atStart => exact NR.mk 0 (Nat.zero_le _) rfl (World.ownsRow_nil _ _ _ _) (World.ownsRow_nil _ _ _ _) ((Below.refl _ _).alloc (Nat.le_refl _) _) HA0.out
  case round =>
    obtain ⟨k, hk, rfl, ho1, ho2, hb, hA⟩ := hrel
    have hB0 : Below w.heap.size w wr := hb1.trans (hb.mono hs1)
    have hsb := hb.size
    obtain ⟨A1, cap1, rfl, hn1, hn2, -, -⟩ := own_tapes ho1
    obtain ⟨A2, cap2, rfl, hn3, hn4, -, -⟩ := own_ints ho2
    have HO1 := Lib.hid ho1
    have HO2 := Lib.hid ho2
    have HA := Lib.hid hA
    have hG1 : w1.heap.size < wr.heap.size := hA.1
    clear ho1 ho2 HA0
    by_cases hlt : k < len
    · obtain ⟨b, off, rfl, hb0, hc1, hc2, hc3⟩ := rows_tp (HX.out.below hB0) k hlt
      have hkl : k < l.length := by rw [HL.out]; exact hlt
      have hT := hl (tpA l k) (by unfold tpA; rw [List.getElem?_eq_getElem hkl]; exact List.getElem_mem hkl)
      have hyes := nearK_yes (R := R) (c := c) hkl
      have hno := nearK_no (R := R) (c := c) hkl
      have hL1 := nearK_len R c l k
      have hL2 := nearI_len R c l k
      rw [HL.out] at hL1
      generalize tpA l k = T at *
      obtain ⟨⟨hT0, hT1⟩, -, -, -, -⟩ := hT
      obtain ⟨ha0, ha1⟩ := ha
      have hg1 := (hA.at_ T.1.toNat (by omega)).1
      have hg2 := (hA.at_ a.toNat (by omega)).1
      rw [num_at6'] at hg1 hg2
      rw [hcK.out] at hg2
      have hG3 : ¬ wr.heap.size = w1.heap.size := by omega
      have hG4 : ¬ w1.heap.size = wr.heap.size := by omega
      have hk1 : (k : Int) < len := by omega
      by_cases hcc : at6 R T.1 = c
      · rw [hcc] at hg1
        have HY1 := Lib.hid (hyes hcc).1
        have HY2 := Lib.hid (hyes hcc).2
        clear hA hyes hno hcc
        go_wp2
        (refine wp_region_later (by kernel_rfl) (by kernel_rfl) ?_; (repeat (go_big_quiet_step ((fail)))); refine wpQuiet_nil ?_)
        intro w4 hb4
        have ht0 : w4.cell? ⟨wr.heap.size, 0, none⟩ = some (.int .i64 T.1) := by rw [hb4.cell (p := ⟨wr.heap.size, 0, none⟩) (by simp)]; go_simp
        have ht1 : w4.cell? ⟨wr.heap.size, 1, none⟩ = some (.int .i64 T.2.1) := by rw [hb4.cell (p := ⟨wr.heap.size, 1, none⟩) (by simp)]; go_simp
        have ht2 : w4.cell? ⟨wr.heap.size, 2, none⟩ = some (.int .i64 T.2.2) := by rw [hb4.cell (p := ⟨wr.heap.size, 2, none⟩) (by simp)]; go_simp
        have hb5 := ((Below.refl _ wr).alloc (Nat.le_refl _) _).trans (hb4.mono (by simp))
        have HP1 := Lib.hid (town_later HO1.out hb5)
        have HP2 := Lib.hid (town_later HO2.out hb5)
        have HA2 := Lib.hid (HA.out.below hb5 hG1)
        have hb6 := hb.trans (hb5.mono hsb)
        have hs6 := hb6.size
        have hs5 := hb5.size
        clear hb4 hb5 HO1 HO2 HA
        go_wp2_with (at_builtin; go_loud (refine wpList_append_own _ rfl (.tmp 35) (.tmp 37) 22 rfl (w1.heap.size + 1) 34 j0 (.agg #[.int .i64 0, .int .i64 0, .int .i64 0]) 3 24 Tryd.underlying22 hJ0.out hJ1.out hJ2.out hJ3.out rfl (by decide) _ _ _ rfl (HP1.out.alloc _) ⟨w4.heap.size, 0, none⟩ 1 1 (int3 T) rfl rfl (tnews3 _ _ _) (tone3 _) (by unfold maxLen; omega) (by omega) (by simp; omega) ?_))
        intro v7 w7 hown7 hgrow7 _
        have hb7 : Below (w1.heap.size + 1) (w4.alloc (.cells #[.int .i64 T.1, .int .i64 T.2.1, .int .i64 T.2.2] 34)) w7 := grown_below hgrow7 (by simp; omega) (fun q hq => ((HP1.out.alloc (.cells #[.int .i64 T.1, .int .i64 T.2.1, .int .i64 T.2.2] 34)).lt q hq).1)
        have HQ2 := Lib.hid (own_beside (by decide) (HP1.out.alloc (.cells #[.int .i64 T.1, .int .i64 T.2.1, .int .i64 T.2.2] 34)) (HP2.out.alloc (.cells #[.int .i64 T.1, .int .i64 T.2.1, .int .i64 T.2.2] 34)) hgrow7)
        have HA3 := Lib.hid ((HA2.out.alloc (.cells #[.int .i64 T.1, .int .i64 T.2.1, .int .i64 T.2.2] 34)).below hb7 (by omega))
        have hb8 := (hb6.alloc hs6 (.cells #[.int .i64 T.1, .int .i64 T.2.1, .int .i64 T.2.2] 34)).trans (hb7.mono (by omega))
        have hs8 := hb8.size
        have hs7 := hb7.size
        simp at hs7
        have HQ1 := Lib.hid hown7
        clear hown7 hgrow7 hb7 HP1 HP2 HA2 hb6 ht0 ht1 ht2
        go_wp2_with (at_builtin; go_loud (refine wpList_append_own _ rfl (.tmp 39) (.tmp 41) 41 rfl (w1.heap.size + 1) 3 i0 (.int .i64 0) 1 8 Tryd.underlying41 hI0.out hI1.out hI2.out hI3.out rfl (by decide) _ _ _ rfl (HQ2.out.alloc _) ⟨w7.heap.size, 0, none⟩ 1 1 [.int .i64 (k : Int)] rfl rfl (tnews1 _ _ _) (tone1 _) (by unfold maxLen; omega) (by omega) (by simp; omega) ?_))
        intro v8 w8 hown8 hgrow8 _
        have hb9 : Below (w1.heap.size + 1) (w7.alloc (.cells #[.int .i64 (k : Int)] 3)) w8 := grown_below hgrow8 (by simp; omega) (fun q hq => ((HQ2.out.alloc (.cells #[.int .i64 (k : Int)] 3)).lt q hq).1)
        have HR1 := Lib.hid (own_beside (by decide) (HQ2.out.alloc (.cells #[.int .i64 (k : Int)] 3)) (HQ1.out.alloc (.cells #[.int .i64 (k : Int)] 3)) hgrow8)
        have HA4 := Lib.hid ((HA3.out.alloc (.cells #[.int .i64 (k : Int)] 3)).below hb9 (by omega))
        have hb10 := (hb8.alloc hs8 (.cells #[.int .i64 (k : Int)] 3)).trans (hb9.mono (by omega))
        have HR2 : Hid (w8.ownsRow (w1.heap.size + 1) 3 1 v8 (nearI R c l k ++ [(k : Int)]).length (icells (nearI R c l k ++ [(k : Int)]))) := Lib.hid (by rw [List.length_append, icells_app]; exact hown8)
        have HR3 : Hid (w8.ownsRow (w1.heap.size + 1) 34 3 v7 (nearK R c l k ++ [T]).length (tcells (nearK R c l k ++ [T]))) := Lib.hid (by rw [List.length_append, tcells_app]; exact HR1.out)
        clear hown8 hgrow8 hb9 HQ1 HQ2 HA3 hb8 HR1
        go_wp2
        go_roundw
        case rel => exact NR.mk (k + 1) (by omega) (by go_num) (by rw [HY1.out]; exact HR3.out) (by rw [HY2.out]; exact HR2.out) hb10 HA4.out
        case measure => simp [intOf]; omega
      · generalize at6 R T.1 = d at *
        have hcc' : (d == c) = false := by simpa using hcc
        have HN1 := Lib.hid (hno hcc).1
        have HN2 := Lib.hid (hno hcc).2
        clear hA hyes hno hcc
        go_wp2
        (refine wp_region_later (by kernel_rfl) (by kernel_rfl) ?_; (repeat (go_big_quiet_step ((fail)))); refine wpQuiet_nil ?_)
        intro w4 hb4
        have hb5 := ((Below.refl _ wr).alloc (Nat.le_refl _) _).trans (hb4.mono (by simp))
        have HP1 := Lib.hid (town_later HO1.out hb5)
        have HP2 := Lib.hid (town_later HO2.out hb5)
        have HA2 := Lib.hid (HA.out.below hb5 hG1)
        have hb6 := hb.trans (hb5.mono hsb)
        clear hb4 hb5 HO1 HO2 HA
        go_wp2
        go_roundw
        case rel => exact NR.mk (k + 1) (by omega) (by go_num) (by rw [HN1.out]; exact HP1.out) (by rw [HN2.out]; exact HP2.out) hb6 HA2.out
        case measure => simp [intOf]; omega
    · have hkn : k = len := by omega
      subst hkn
      have hr0 := hA.at_ 0 (by omega)
      have hr1 := hA.at_ 1 (by omega)
      have hr2 := hA.at_ 2 (by omega)
      have hr3 := hA.at_ 3 (by omega)
      have hr4 := hA.at_ 4 (by omega)
      have hr5 := hA.at_ 5 (by omega)
      obtain ⟨ha0, ha1⟩ := ha
      have hg2 := (hA.at_ a.toNat (by omega)).1
      rw [num_at6', hcK.out] at hg2
      have hix : ∀ (j : Nat), j < 6 → ∀ W, (Instr.index 80 (.agg #[.int .i64 (num R 0), .int .i64 (num R 1), .int .i64 (num R 2), .int .i64 (num R 3), .int .i64 (num R 4), .int .i64 (num R 5)]) (.int .i64 (j : Int))).run Tryd.prog W = .ok (.int .i64 (num R j)) W := by
        intro j hj W
        rcases (by omega : j = 0 ∨ j = 1 ∨ j = 2 ∨ j = 3 ∨ j = 4 ∨ j = 5) with rfl | rfl | rfl | rfl | rfl | rfl <;> rfl
      have HIX := Lib.hid hix
      have HS1 := Lib.hid (fun j => cntK_le R c j)
      have HS2 : Hid (∀ j, cntK R c (j + 1) = cntK R c j + if num R j = c then 1 else 0) := Lib.hid (fun _ => rfl)
      clear hA hix
      go_wp2
      go_loop [45, 6] (fun i x => ∃ j : Nat, j ≤ 6 ∧ i = .int .i64 j ∧ x = .int .i64 (cntK R c j)) (fun i _ => 6 - (intOf i).toNat)
      case atStart => exact ⟨0, Nat.zero_le _, rfl, rfl⟩
      case round =>
        obtain ⟨j, hj, rfl, rfl⟩ := hrel
        by_cases hj6 : j < 6
        · have hi := HIX.out j hj6
          have hcl := HS1.out j
          have hsu := HS2.out j
          have hj1 : (j : Int) < 6 := by omega
          generalize num R j = X at *
          generalize cntK R c j = C at *
          by_cases hX : X = c
          · have hX' : (X == c) = true := by simpa using hX
            rw [if_pos hX] at hsu
            have HSU := Lib.hid hsu
            clear hsu hX
            go_wp2
            go_round
            case rel => exact ⟨j + 1, by omega, by go_num, by rw [HSU.out]; go_num⟩
            case measure => simp [intOf]; omega
          · have hX' : (X == c) = false := by simpa using hX
            rw [if_neg hX] at hsu
            have HSU := Lib.hid hsu
            clear hsu hX
            go_wp2
            go_round
            case rel => exact ⟨j + 1, by omega, by go_num, by rw [HSU.out]; rfl⟩
            case measure => simp [intOf]; omega
        · have hj66 : j = 6 := by omega
          subst hj66
          have hcl := HS1.out 6
          go_wp2
          go_ret3
          exact ⟨⟨_, _, rfl, town_mono HO1.out (by omega), town_mono HO2.out (by omega)⟩, hB0⟩
end Go.Proofs.YthpbkbbmedpecaaDoor
