/- Tapes: Merged. -/
import Derived.Test.YtcpnipnaidihaaaMake2
import Derived.Deep.QuietTactic
import Derived.BigQuiet
import Derived.Deep.DeepCutAuto
set_option linter.unusedSimpArgs false
set_option linter.unusedVariables false
namespace Go.Proofs.Ytcpnipnaidihaaa
open Go.RowKit
attribute [local go_sem] Later.cell Same.cell

set_option maxHeartbeats 1000000 in
theorem now_any (x a b : Int) (Ba Bb : Nat) (w : World) (hxb : -9223372036854775808 < x ∧ x ≤ 9223372036854775807) (hb : w.cell? ⟨Bb, 0, none⟩ = some (.int .i64 b)) (ha : w.cell? ⟨Ba, 0, none⟩ = some (.int .i64 a)) :
    Calls Try.prog 79 #[.int .i64 x, .pointer (some ⟨Bb, 0, none⟩), .pointer (some ⟨Ba, 0, none⟩)] w fun e w' => e = .returned (.int .i64 (nw a b x)) ∧ w = w' := by
  have hN : nw a b x = if x = b then a else if x > b then x - 1 else x := rfl
  have hw1 : IntKind.i64.wrap (x - 1) = x - 1 := IntWalk.i64_in _ (by omega)
  by_cases h1 : x = b
  · subst h1
    rw [if_pos rfl] at hN
    have HN := Lib.hid hN
    clear hN
    go_enter Try.func79, Try.ntmps79
    go_wp2
    go_ret
    exact ⟨ret_int HN.out.symm, rfl⟩
  · have h1' : (x == b) = false := by simpa using h1
    rw [if_neg h1] at hN
    by_cases h2 : x > b
    · have h2' : decide (b < x) = true := by simpa using h2
      rw [if_pos h2] at hN
      have HN := Lib.hid hN
      clear hN
      go_enter Try.func79, Try.ntmps79
      go_wp2
      go_ret
      exact ⟨ret_int (by rw [HN.out]), rfl⟩
    · have h2' : decide (b < x) = false := by simpa using h2
      rw [if_neg h2] at hN
      have HN := Lib.hid hN
      clear hN
      go_enter Try.func79, Try.ntmps79
      go_wp2
      go_ret
      exact ⟨ret_int HN.out.symm, rfl⟩
def meE (n : Int) (l : List Tp) (a b : Int) : Int := if askE n l [a, b] = 0 then (if a = b then 10 else 0) else askE n l [a, b]
def meN (n : Int) (l : List Tp) (a b : Int) : Int := if meE n l a b = 0 then n - 1 else 0
def meL (n : Int) (l : List Tp) (a b : Int) : List Tp := if meE n l a b = 0 then mrg (min a b) (max a b) l else []
theorem mrg_snoc_no {a b : Int} {l : List Tp} {k : Nat} (hk : k < l.length) (h : nw a b (tpA l k).1 = nw a b (tpA l k).2.1) : mrg a b (l.take (k + 1)) = mrg a b (l.take k) := by
  unfold mrg
  rw [take_snoc hk, List.filter_append]
  simp [h]
theorem mrg_snoc_yes {a b : Int} {l : List Tp} {k : Nat} (hk : k < l.length) (h : nw a b (tpA l k).1 ≠ nw a b (tpA l k).2.1) : mrg a b (l.take (k + 1)) = mrg a b (l.take k) ++ [mrgT a b (tpA l k)] := by
  unfold mrg
  rw [take_snoc hk, List.filter_append]
  simp [h]
theorem mrg_len_le (a b : Int) (l : List Tp) : (mrg a b l).length ≤ l.length := by
  unfold mrg
  rw [List.length_map]
  exact List.length_filter_le ..
def MR (w1 : World) (base : Nat) (a b : Int) (l : List Tp) (n : Nat) (i v : Value) (W : World) : Prop :=
  ∃ k : Nat, k ≤ n ∧ i = .int .i64 k ∧ W.ownsRow base 59 3 v (mrg a b (l.take k)).length (tcells (mrg a b (l.take k))) ∧ Below base w1 W
theorem MR.mk {w1 : World} {base : Nat} {a b : Int} {l : List Tp} {n : Nat} {i v : Value} {W : World} (k : Nat) (h1 : k ≤ n) (h2 : i = .int .i64 k) (h3 : W.ownsRow base 59 3 v (mrg a b (l.take k)).length (tcells (mrg a b (l.take k)))) (h4 : Below base w1 W) : MR w1 base a b l n i v W := ⟨k, h1, h2, h3, h4⟩
set_option maxRecDepth 20000 in
set_option maxHeartbeats 4000000 in
theorem Merged_any (n : Int) (A : Option Addr) (len cap : Nat) (l : List Tp) (a b : Int) (w : World) (hm : len ≤ 9223372036854775807) (hx : Rows 3 int3 (0,0,0) w w.heap.size A len l) :
    Calls Try.prog 41 #[.int .i64 n, .slice A len cap, .int .i64 a, .int .i64 b] w fun e w' => (∃ v, e = .returned (.tuple #[.int .i64 (meN n l a b), v, .int .i64 (meE n l a b)]) ∧ w'.ownsRow w.heap.size 59 3 v (meL n l a b).length (tcells (meL n l a b))) ∧ Below w.heap.size w w' := by
  have c1 := fun t => asked_any n A len cap l (some ⟨w.heap.size + 2, 0, none⟩) 2 2 [a, b] (((w.alloc (.cells #[.int .i64 a] 3)).alloc (.cells #[.int .i64 b] 3)).alloc (.cells #[.int .i64 a, .int .i64 b] t)) hm (by omega) ((hx.below (by repeat (first | exact Below.refl _ _ | assumption | refine Below.setCell ?_ (by first | (simp; done) | (simp; omega) | omega) _ | refine Below.drew ?_ | refine below_drewN ?_ _ | refine Below.alloc ?_ (by first | (simp; done) | (simp; omega) | omega) _ | refine below_alloc ?_ _ | refine below_step ?_ (by assumption)))).more (by simp; omega)) (by have := ints2 ((w.alloc (.cells #[.int .i64 a] 3)).alloc (.cells #[.int .i64 b] 3)) a b t; simpa using this)
  have hE : meE n l a b = if askE n l [a, b] = 0 then (if a = b then 10 else 0) else askE n l [a, b] := rfl
  have hN : meN n l a b = if meE n l a b = 0 then n - 1 else 0 := rfl
  have hL : meL n l a b = if meE n l a b = 0 then mrg (min a b) (max a b) l else [] := rfl
  rcases ask_cases n l a b with ⟨h0, hv, ha, hb⟩ | h0
  · obtain ⟨hn, hlen, hl⟩ := vNet_spec hv
    rw [hx.1] at hlen
    rw [h0] at c1
    rw [h0, if_pos rfl] at hE
    by_cases hab : a = b
    · subst hab
      rw [if_pos rfl] at hE
      rw [hE] at hN hL
      rw [if_neg (by decide)] at hN hL
      rw [hE, hN, hL]
      have C1 := Lib.hid c1
      clear c1 hx hl hv h0 hE hN hL
      go_enter Try.func41, Try.ntmps41
      go_wp2_with fail
      refine (C1.out _).mono ?_
      rintro e w1 ⟨rfl, hb⟩
      have hB_w1 : Below w.heap.size w w1 := (by repeat (first | exact Below.refl _ _ | assumption | refine Below.setCell ?_ (by first | (simp; done) | (simp; omega) | omega) _ | refine Below.drew ?_ | refine below_drewN ?_ _ | refine Below.alloc ?_ (by first | (simp; done) | (simp; omega) | omega) _ | refine below_alloc ?_ _ | refine below_step ?_ (by assumption))); have hz_w1 := hB_w1.size; have hsw10 : w.heap.size < w1.heap.size := Nat.lt_of_lt_of_le (by first | (simp; done) | (simp; omega) | omega) hb.size; have hnw10 : ¬ w.heap.size = w1.heap.size := (by omega); have hmw10 : ¬ w1.heap.size = w.heap.size := (by omega); have hlw10_0 : w.heap.size ≤ w1.heap.size := (by omega); have hlw10_1 : w.heap.size ≤ w1.heap.size + 1 := (by omega); have hlw10_2 : w.heap.size ≤ w1.heap.size + 1 + 1 := (by omega); have hkw10 : w1.cell? ⟨w.heap.size, 0, none⟩ = some (.int .i64 a) := (by rw [hb.cell (p := ⟨w.heap.size, 0, none⟩) (by first | (simp; done) | (simp; omega) | omega)]; first | (go_simp; done) | assumption); have hfw10 : w1.frozen? ⟨w.heap.size, 0, none⟩ = false := (by rw [hb.frozen (p := ⟨w.heap.size, 0, none⟩) (by first | (simp; done) | (simp; omega) | omega)]; first | (go_simp; done) | assumption); have hsw11 : w.heap.size + 1 < w1.heap.size := Nat.lt_of_lt_of_le (by first | (simp; done) | (simp; omega) | omega) hb.size; have hnw11 : ¬ w.heap.size + 1 = w1.heap.size := (by omega); have hmw11 : ¬ w1.heap.size = w.heap.size + 1 := (by omega); have hlw11_0 : w.heap.size + 1 ≤ w1.heap.size := (by omega); have hlw11_1 : w.heap.size + 1 ≤ w1.heap.size + 1 := (by omega); have hlw11_2 : w.heap.size + 1 ≤ w1.heap.size + 1 + 1 := (by omega); have hkw11 : w1.cell? ⟨w.heap.size + 1, 0, none⟩ = some (.int .i64 a) := (by rw [hb.cell (p := ⟨w.heap.size + 1, 0, none⟩) (by first | (simp; done) | (simp; omega) | omega)]; first | (go_simp; done) | assumption); have hfw11 : w1.frozen? ⟨w.heap.size + 1, 0, none⟩ = false := (by rw [hb.frozen (p := ⟨w.heap.size + 1, 0, none⟩) (by first | (simp; done) | (simp; omega) | omega)]; first | (go_simp; done) | assumption); clear hb
      go_wp2
      go_ret3
      exact ⟨⟨_, rfl, World.ownsRow_nil _ _ _ _⟩, (by repeat (first | exact Below.refl _ _ | assumption | refine Below.setCell ?_ (by first | (simp; done) | (simp; omega) | omega) _ | refine Below.drew ?_ | refine below_drewN ?_ _ | refine Below.alloc ?_ (by first | (simp; done) | (simp; omega) | omega) _ | refine below_alloc ?_ _ | refine below_step ?_ (by assumption)))⟩
    · rw [if_neg hab] at hE
      rw [hE, if_pos rfl] at hN hL
      rw [hE, hN, hL]
      have hab' : (a == b) = false := by simpa using hab
      have C1 := Lib.hid c1
      have HX := Lib.hid hx
      clear c1 hx hv h0 hE hN hL
      go_enter Try.func41, Try.ntmps41
      go_wp2_with fail
      refine (C1.out _).mono ?_
      rintro e w1 ⟨rfl, hb⟩
      have hB_w1 : Below w.heap.size w w1 := (by repeat (first | exact Below.refl _ _ | assumption | refine Below.setCell ?_ (by first | (simp; done) | (simp; omega) | omega) _ | refine Below.drew ?_ | refine below_drewN ?_ _ | refine Below.alloc ?_ (by first | (simp; done) | (simp; omega) | omega) _ | refine below_alloc ?_ _ | refine below_step ?_ (by assumption))); have hz_w1 := hB_w1.size; have hsw10 : w.heap.size < w1.heap.size := Nat.lt_of_lt_of_le (by first | (simp; done) | (simp; omega) | omega) hb.size; have hnw10 : ¬ w.heap.size = w1.heap.size := (by omega); have hmw10 : ¬ w1.heap.size = w.heap.size := (by omega); have hlw10_0 : w.heap.size ≤ w1.heap.size := (by omega); have hlw10_1 : w.heap.size ≤ w1.heap.size + 1 := (by omega); have hlw10_2 : w.heap.size ≤ w1.heap.size + 1 + 1 := (by omega); have hkw10 : w1.cell? ⟨w.heap.size, 0, none⟩ = some (.int .i64 a) := (by rw [hb.cell (p := ⟨w.heap.size, 0, none⟩) (by first | (simp; done) | (simp; omega) | omega)]; first | (go_simp; done) | assumption); have hfw10 : w1.frozen? ⟨w.heap.size, 0, none⟩ = false := (by rw [hb.frozen (p := ⟨w.heap.size, 0, none⟩) (by first | (simp; done) | (simp; omega) | omega)]; first | (go_simp; done) | assumption); have hsw11 : w.heap.size + 1 < w1.heap.size := Nat.lt_of_lt_of_le (by first | (simp; done) | (simp; omega) | omega) hb.size; have hnw11 : ¬ w.heap.size + 1 = w1.heap.size := (by omega); have hmw11 : ¬ w1.heap.size = w.heap.size + 1 := (by omega); have hlw11_0 : w.heap.size + 1 ≤ w1.heap.size := (by omega); have hlw11_1 : w.heap.size + 1 ≤ w1.heap.size + 1 := (by omega); have hlw11_2 : w.heap.size + 1 ≤ w1.heap.size + 1 + 1 := (by omega); have hkw11 : w1.cell? ⟨w.heap.size + 1, 0, none⟩ = some (.int .i64 b) := (by rw [hb.cell (p := ⟨w.heap.size + 1, 0, none⟩) (by first | (simp; done) | (simp; omega) | omega)]; first | (go_simp; done) | assumption); have hfw11 : w1.frozen? ⟨w.heap.size + 1, 0, none⟩ = false := (by rw [hb.frozen (p := ⟨w.heap.size + 1, 0, none⟩) (by first | (simp; done) | (simp; omega) | omega)]; first | (go_simp; done) | assumption); clear hb
      have hs1 : w1.heap.size > w.heap.size + 1 := by omega
      have hlo : nod (min a b) := by unfold nod at *; omega
      have hhi : nod (max a b) := by unfold nod at *; omega
      generalize hlov : min a b = lo at *
      generalize hhiv : max a b = hi at *
      have HLO := Lib.hid hlov
      have HHI := Lib.hid hhiv
      clear hlov hhiv
      obtain ⟨j0, hj, hy0, hy1, hy2⟩ := info_parts info_tape
      have hJ0 := Lib.hid hj
      have hJ1 := Lib.hid hy0
      have hJ2 := Lib.hid hy1
      have hJ3 := Lib.hid hy2
      have HL := Lib.hid HX.out.1
      clear hj hy0 hy1 hy2
      go_upto_region 6 with fail
      go_cut [8] (fun s wc => s = .int .i64 0 ∧ Hid (wc = ((w1.setCell ⟨w.heap.size, 0, none⟩ (.int .i64 lo)).setCell ⟨w.heap.size + 1, 0, none⟩ (.int .i64 hi)).drew))
      case first =>
        go_region_law (fail)
        all_goals
          go_wp2_with fail
          go_meet
          case rel => exact ⟨rfl, Lib.hid (by rw [HLO.out, HHI.out])⟩
      case rest =>
      obtain ⟨rfl, HW0⟩ := hcut
      have hcA : wc.cell? ⟨w.heap.size, 0, none⟩ = some (.int .i64 lo) := by rw [HW0.out]; go_simp
      have hcB : wc.cell? ⟨w.heap.size + 1, 0, none⟩ = some (.int .i64 hi) := by rw [HW0.out]; go_simp
      have hB0 : Below w.heap.size w wc := by rw [HW0.out]; exact (by repeat (first | exact Below.refl _ _ | assumption | refine Below.setCell ?_ (by first | (simp; done) | (simp; omega) | omega) _ | refine Below.drew ?_ | refine below_drewN ?_ _ | refine Below.alloc ?_ (by first | (simp; done) | (simp; omega) | omega) _ | refine below_alloc ?_ _ | refine below_step ?_ (by assumption)))
      have hsz : wc.heap.size = w1.heap.size := by rw [HW0.out]; simp
      clear HW0
      have hbw : w.heap.size + 1 < wc.heap.size := by omega
      go_wp2
      go_loopw [39, 13] (fun i v W => MR wc wc.heap.size lo hi l len i v W) (fun i _ _ => len - (intOf i).toNat)
      case atStart => exact MR.mk 0 (Nat.zero_le _) rfl (World.ownsRow_nil _ _ _ _) (Below.refl _ _)
      case round =>
        obtain ⟨k, hk, rfl, ho, hb⟩ := hrel
        have hBw : Below w.heap.size w wr := hB0.trans (hb.mono (by omega))
        have hsb := hb.size
        have hca : wr.cell? ⟨w.heap.size, 0, none⟩ = some (.int .i64 lo) := (hb.cell (p := ⟨w.heap.size, 0, none⟩) (by show w.heap.size < _; omega)).trans hcA
        have hcb : wr.cell? ⟨w.heap.size + 1, 0, none⟩ = some (.int .i64 hi) := (hb.cell (p := ⟨w.heap.size + 1, 0, none⟩) (by show w.heap.size + 1 < _; omega)).trans hcB
        obtain ⟨A1, cap1, rfl, hn1, hn2, -, -⟩ := own_tapes ho
        have HO := Lib.hid ho
        clear ho
        by_cases hlt : k < len
        · obtain ⟨b0, off, rfl, hb0, hc1, hc2, hc3⟩ := rows_tp (HX.out.below hBw) k hlt
          have hkl : k < l.length := by rw [HL.out]; exact hlt
          have hT := hl (tpA l k) (by unfold tpA; rw [List.getElem?_eq_getElem hkl]; exact List.getElem_mem hkl)
          have hyes := mrg_snoc_yes (a := lo) (b := hi) hkl
          have hno := mrg_snoc_no (a := lo) (b := hi) hkl
          have hL1 := mrg_len_le lo hi (l.take k)
          have hL2 : (l.take k).length ≤ len := by rw [List.length_take, HL.out]; omega
          have cN := fun (t : TypeId) (y : Int) (hy : nod y) (x : Later (wr.alloc (.cells #[.int .i64 (tpA l k).1, .int .i64 (tpA l k).2.1, .int .i64 (tpA l k).2.2] t))) => later_same (x := x) (now_any y lo hi w.heap.size (w.heap.size + 1) x.val (by unfold nod at hy; omega)
            (by rw [x.h.cell (p := ⟨w.heap.size + 1, 0, none⟩) (by simp; omega)]; rw [((Below.refl wr.heap.size wr).alloc (Nat.le_refl _) _).cell (p := ⟨w.heap.size + 1, 0, none⟩) (by show w.heap.size + 1 < _; omega)]; exact hcb)
            (by rw [x.h.cell (p := ⟨w.heap.size, 0, none⟩) (by simp; omega)]; rw [((Below.refl wr.heap.size wr).alloc (Nat.le_refl _) _).cell (p := ⟨w.heap.size, 0, none⟩) (by show w.heap.size < _; omega)]; exact hca))
          generalize tpA l k = T at *
          obtain ⟨hT1, hT2, -, -, -⟩ := hT
          have hk1 : (k : Int) < len := by omega
          have CN := Lib.hid cN
          clear cN hca hcb
          have hmT : mrgT lo hi T = (min (nw lo hi T.1) (nw lo hi T.2.1), max (nw lo hi T.1) (nw lo hi T.2.1), T.2.2) := rfl
          rw [hmT] at hyes
          clear hmT
          by_cases hpq : nw lo hi T.1 = nw lo hi T.2.1
          · have HN := Lib.hid (hno hpq)
            have hpq' : (nw lo hi T.1 != nw lo hi T.2.1) = false := by simpa using hpq
            clear hyes hno hpq
            go_wp2
            (refine wp_region_later (by kernel_rfl) (by kernel_rfl) ?_; (repeat (go_big_quiet_step ((go_at_call 79; exact CN.out _ _ (by assumption) _)))); refine wpQuiet_nil ?_)
            intro w4 hb4
            have hb5 := ((Below.refl _ wr).alloc (Nat.le_refl _) _).trans (hb4.mono (by simp))
            have HP1 := Lib.hid (town_later HO.out hb5)
            have hb6 := hb.trans (hb5.mono hsb)
            clear hb4 hb5 HO
            go_wp2
            go_roundw
            case rel => exact MR.mk (k + 1) (by omega) (by go_num) (by rw [HN.out]; exact HP1.out) hb6
            case measure => simp [intOf]; omega
          · have HY := Lib.hid (hyes hpq)
            have hpq' : (nw lo hi T.1 != nw lo hi T.2.1) = true := by simpa using hpq
            clear hyes hno hpq
            go_wp2
            (refine wp_region_later (by kernel_rfl) (by kernel_rfl) ?_; (repeat (go_big_quiet_step ((go_at_call 79; exact CN.out _ _ (by assumption) _)))); refine wpQuiet_nil ?_)
            intro w4 hb4
            have ht2 : w4.cell? ⟨wr.heap.size, 2, none⟩ = some (.int .i64 T.2.2) := by rw [hb4.cell (p := ⟨wr.heap.size, 2, none⟩) (by simp)]; go_simp
            have hb5 := ((Below.refl _ wr).alloc (Nat.le_refl _) _).trans (hb4.mono (by simp))
            have HP1 := Lib.hid (town_later HO.out hb5)
            have hb6 := hb.trans (hb5.mono hsb)
            have hs6 := hb6.size
            clear hb4 hb5 HO CN
            generalize nw lo hi T.1 = P at *
            generalize nw lo hi T.2.1 = Q at *
            go_wp2_with (at_builtin; go_loud (refine wpList_append_own _ rfl (.tmp 54) (.tmp 64) 22 rfl wc.heap.size 59 j0 (.agg #[.int .i64 0, .int .i64 0, .int .i64 0]) 3 24 Try.underlying22 hJ0.out hJ1.out hJ2.out hJ3.out rfl (by decide) _ _ _ rfl (HP1.out.alloc _) ⟨w4.heap.size, 0, none⟩ 1 1 (int3 (min P Q, max P Q, T.2.2)) rfl rfl (tnews3 _ _ _) (tone3 _) (by unfold maxLen; omega) (by omega) (by simp; omega) ?_))
            intro v7 w7 hown7 hgrow7 _
            have hb7 : Below wc.heap.size (w4.alloc (.cells #[.int .i64 (min P Q), .int .i64 (max P Q), .int .i64 T.2.2] 59)) w7 := grown_below hgrow7 (by simp; omega) (fun q hq => ((HP1.out.alloc (.cells #[.int .i64 (min P Q), .int .i64 (max P Q), .int .i64 T.2.2] 59)).lt q hq).1)
            have hb8 := (hb6.alloc hs6 (.cells #[.int .i64 (min P Q), .int .i64 (max P Q), .int .i64 T.2.2] 59)).trans hb7
            have HQ1 : Hid (w7.ownsRow wc.heap.size 59 3 v7 (mrg lo hi (l.take k) ++ [(min P Q, max P Q, T.2.2)]).length (tcells (mrg lo hi (l.take k) ++ [(min P Q, max P Q, T.2.2)]))) := Lib.hid (by rw [List.length_append, tcells_app, hsz]; exact hown7)
            clear hown7 hgrow7 hb7 HP1 hb6 ht2
            go_wp2
            go_roundw
            case rel => exact MR.mk (k + 1) (by omega) (by go_num) (by rw [HY.out]; exact HQ1.out) hb8
            case measure => simp [intOf]; omega
        · have hkl : l.take k = l := List.take_of_length_le (by rw [HL.out]; omega)
          have HB := Lib.hid (hB0.trans (hb.mono (by omega)))
          have HKL := Lib.hid hkl
          have hwn : IntKind.i64.wrap (n - 1) = n - 1 := IntWalk.i64_in _ (by omega)
          clear hkl
          go_wp2
          go_ret3
          refine ⟨⟨.slice A1 (mrg lo hi (l.take k)).length cap1, rfl, ?_⟩, HB.out⟩
          have := HO.out
          rw [HKL.out] at this ⊢
          rw [HLO.out, HHI.out]
          exact town_mono this (by omega)
  · have h0' : (askE n l [a, b] == 0) = false := by simpa using h0
    rw [if_neg h0] at hE
    rw [hE, if_neg h0] at hN hL
    rw [hE, hN, hL]
    generalize askE n l [a, b] = E at *
    have C1 := Lib.hid c1
    clear c1 hx hE hN hL h0
    go_enter Try.func41, Try.ntmps41
    go_wp2_with fail
    refine (C1.out _).mono ?_
    rintro e w1 ⟨rfl, hb⟩
    have hB_w1 : Below w.heap.size w w1 := (by repeat (first | exact Below.refl _ _ | assumption | refine Below.setCell ?_ (by first | (simp; done) | (simp; omega) | omega) _ | refine Below.drew ?_ | refine below_drewN ?_ _ | refine Below.alloc ?_ (by first | (simp; done) | (simp; omega) | omega) _ | refine below_alloc ?_ _ | refine below_step ?_ (by assumption))); have hz_w1 := hB_w1.size; clear hb
    go_wp2
    go_ret3
    exact ⟨⟨_, rfl, World.ownsRow_nil _ _ _ _⟩, (by repeat (first | exact Below.refl _ _ | assumption | refine Below.setCell ?_ (by first | (simp; done) | (simp; omega) | omega) _ | refine Below.drew ?_ | refine below_drewN ?_ _ | refine Below.alloc ?_ (by first | (simp; done) | (simp; omega) | omega) _ | refine below_alloc ?_ _ | refine below_step ?_ (by assumption)))⟩
end Go.Proofs.Ytcpnipnaidihaaa
