/- TapeBridges: the walk of the statement. -/
import Derived.Test.YtpfhfmnlojigpaaCurL
import Derived.Test.YtpfhfmnlojigpaaBrid
import Derived.Test.YtpfhfmnlojigpaaTape9
import Derived.Test.YtpfhfmnlojigpaaMid
import Derived.Test.YtpfhfmnlojigpaaTreesM
set_option linter.unusedSimpArgs false
set_option linter.unusedVariables false
namespace Go.Proofs.Ytpfhfmnlojigpaa
open Go.RowKit
attribute [local go_sem] Later.cell Same.cell

theorem brE_zero {n : Int} {l : List Tp} (h : brE n l = 0) : vNet n l = true := by
  unfold brE at h
  cases hv : vNet n l
  · rw [hv] at h; cases h
  · rfl
theorem res_tape {n : Int} {l : List Tp} (hv : vNet n l = true) {i : Nat} (hi : i < l.length) : resE n l (tpA l i).1 (tpA l i).2.1 = 0 := by
  obtain ⟨hn, hlen, hl⟩ := vNet_spec hv
  have hmem : tpA l i ∈ l := by unfold tpA; rw [List.getElem?_eq_getElem hi]; exact List.getElem_mem hi
  obtain ⟨t1, t2, t3, -⟩ := vNet_mem hv hi
  have hj := full_tape hl (r := R0) rfl _ hmem
  have h0 : askE n l [(tpA l i).1, (tpA l i).2.1] = 0 := by
    unfold askE
    have : allW n [(tpA l i).1, (tpA l i).2.1] = true := by
      simp only [allW, List.all_cons, List.all_nil, Bool.and_true, Bool.and_eq_true]
      exact ⟨withinB_iff.2 (by omega), withinB_iff.2 (by omega)⟩
    rw [hv, this]; rfl
  unfold resE
  rw [if_pos h0]
  have : jnB l (tpA l i).1 (tpA l i).2.1 = true := by unfold jnB; simp [hj]
  rw [this]; rfl
/-- Whether the first k numbers hold i. -/
def inK (L : List Int) (i : Int) (k : Nat) : Bool := (L.take k).any (fun x => x == i)
theorem inK_succ {L : List Int} {i : Int} {k : Nat} (h : k < L.length) : inK L i (k + 1) = (inK L i k || (L[k]?.getD 0 == i)) := by
  unfold inK
  rw [List.take_succ_eq_append_getElem h, List.any_append]
  simp [List.getElem?_eq_getElem h]
theorem inK_all {l : List Tp} {i : Nat} (hi : i < l.length) : inK (brK l l.length) i (brK l l.length).length = isBr l i := by
  unfold inK
  rw [List.take_length]
  cases h : isBr l i
  · rw [List.any_eq_false]
    intro x hx
    unfold brK at hx
    obtain ⟨j, hj, rfl⟩ := List.mem_map.1 hx
    have := (List.mem_filter.1 hj).2
    intro he
    have he' : j = i := by have := eq_of_beq he; omega
    rw [he', h] at this; cases this
  · rw [List.any_eq_true]
    exact ⟨(i : Int), List.mem_map.2 ⟨i, List.mem_filter.2 ⟨List.mem_range.2 hi, h⟩, rfl⟩, by simp⟩
theorem bridge_one {l : List Tp} (hl : okL l) {i : Nat} (hi : i < l.length) :
    isBr l i = (decide (lowN (curF l (tpA l i).1 (tpA l i).2.1 i) (treesN l (tpA l i).1) = 1) && decide (lowD (curF l (tpA l i).1 (tpA l i).2.1 i) (treesN l (tpA l i).1) = 1)) := by
  have hmem : tpA l i ∈ l := by unfold tpA; rw [List.getElem?_eq_getElem hi]; exact List.getElem_mem hi
  have ht := trees_pos hl (hl _ hmem).1
  have h1 := cur_bridge hl hi
  have h2 := low_is_one (n := curF l (tpA l i).1 (tpA l i).2.1 i) ht
  rw [← h2] at h1
  unfold isBr
  rw [Bool.eq_iff_iff, Bool.and_eq_true, decide_eq_true_eq, decide_eq_true_eq, h1]
  simp
set_option maxRecDepth 20000 in
set_option maxHeartbeats 8000000 in
theorem bridges_walk (n : Int) (A : Option Addr) (len cap : Nat) (l : List Tp) (i : Int) (w : World)
    (_ : -9223372036854775808 ≤ n ∧ n ≤ 9223372036854775807)
    (hm : len ≤ cap ∧ cap ≤ 9223372036854775807) (hx : Rows 3 int3 (0,0,0) w w.heap.size A len l) (_ : ∀ x ∈ l, (-9223372036854775808 ≤ x.1 ∧ x.1 ≤ 9223372036854775807) ∧ (-9223372036854775808 ≤ x.2.1 ∧ x.2.1 ≤ 9223372036854775807) ∧ (-9223372036854775808 ≤ x.2.2 ∧ x.2.2 ≤ 9223372036854775807))
    (_ : -9223372036854775808 ≤ i ∧ i ≤ 9223372036854775807) :
    Calls Try.prog 5 #[.agg #[.int .i64 n, .slice A len cap], .int .i64 i] w fun e w' => e = .returned (.bool true) ∧ Below w.heap.size w w' := by
  have c0 := fun W => tsmall_any n A len cap W
  have AW : ∀ w2, Below w.heap.size w w2 → Calls Try.prog 10 #[] w2 fun e w' => e = .returned (.bool true) ∧ Below w.heap.size w w' := fun w2 h2 => (tawake_any w2).mono fun e w' ⟨h3, h4⟩ => ⟨h3, below_step h2 h4⟩
  by_cases hs : decide (len ≤ 30) = true
  · rw [hs] at c0
    by_cases hi0 : i < 0
    · have hd0 : decide (i < 0) = true := decide_eq_true hi0
      have C0 := Lib.hid c0
      clear c0 hx hs AW
      go_enter Try.func5, Try.ntmps5
      go_wp2_with fail
      refine (C0.out _).mono ?_
      rintro e w0 ⟨rfl, hb⟩
      have hB_w0 : Below w.heap.size w w0 := (by repeat (first | exact Below.refl _ _ | assumption | refine Below.setCell ?_ (by first | (simp; done) | (simp; omega) | omega) _ | refine Below.drew ?_ | refine below_drewN ?_ _ | refine Below.alloc ?_ (by first | (simp; done) | (simp; omega) | omega) _ | refine below_alloc ?_ _ | refine below_step ?_ (by assumption))); have hz_w0 := hB_w0.size; have hsw00 : w.heap.size < w0.heap.size := Nat.lt_of_lt_of_le (by first | (simp; done) | (simp; omega) | omega) hb.size; have hnw00 : ¬ w.heap.size = w0.heap.size := (by omega); have hmw00 : ¬ w0.heap.size = w.heap.size := (by omega); have hlw00_0 : w.heap.size ≤ w0.heap.size := (by omega); have hlw00_1 : w.heap.size ≤ w0.heap.size + 1 := (by omega); have hlw00_2 : w.heap.size ≤ w0.heap.size + 1 + 1 := (by omega); have hkw00 : w0.cell? ⟨w.heap.size, 0, none⟩ = some (.int .i64 n) := (by rw [hb.cell (p := ⟨w.heap.size, 0, none⟩) (by first | (simp; done) | (simp; omega) | omega)]; first | (go_simp; done) | assumption); have hkw01 : w0.cell? ⟨w.heap.size, 1, none⟩ = some (.slice A len cap) := (by rw [hb.cell (p := ⟨w.heap.size, 1, none⟩) (by first | (simp; done) | (simp; omega) | omega)]; first | (go_simp; done) | assumption); clear hb
      go_wp2_with (go_at_call 10; refine (tawake_any _).mono ?_; rintro e w8 ⟨rfl, hb1⟩)
      go_ret
      exact ⟨rfl, (by repeat (first | exact Below.refl _ _ | assumption | refine Below.setCell ?_ (by first | (simp; done) | (simp; omega) | omega) _ | refine Below.drew ?_ | refine below_drewN ?_ _ | refine Below.alloc ?_ (by first | (simp; done) | (simp; omega) | omega) _ | refine below_alloc ?_ _ | refine below_step ?_ (by assumption)))⟩
    · have hd0 : decide (i < 0) = false := decide_eq_false hi0
      by_cases hi1 : (len : Int) ≤ i
      · have hd1 : decide ((len : Int) ≤ i) = true := decide_eq_true hi1
        have C0 := Lib.hid c0
        clear c0 hx hs AW
        go_enter Try.func5, Try.ntmps5
        go_wp2_with fail
        refine (C0.out _).mono ?_
        rintro e w0 ⟨rfl, hb⟩
        have hB_w0 : Below w.heap.size w w0 := (by repeat (first | exact Below.refl _ _ | assumption | refine Below.setCell ?_ (by first | (simp; done) | (simp; omega) | omega) _ | refine Below.drew ?_ | refine below_drewN ?_ _ | refine Below.alloc ?_ (by first | (simp; done) | (simp; omega) | omega) _ | refine below_alloc ?_ _ | refine below_step ?_ (by assumption))); have hz_w0 := hB_w0.size; have hsw00 : w.heap.size < w0.heap.size := Nat.lt_of_lt_of_le (by first | (simp; done) | (simp; omega) | omega) hb.size; have hnw00 : ¬ w.heap.size = w0.heap.size := (by omega); have hmw00 : ¬ w0.heap.size = w.heap.size := (by omega); have hlw00_0 : w.heap.size ≤ w0.heap.size := (by omega); have hlw00_1 : w.heap.size ≤ w0.heap.size + 1 := (by omega); have hlw00_2 : w.heap.size ≤ w0.heap.size + 1 + 1 := (by omega); have hkw00 : w0.cell? ⟨w.heap.size, 0, none⟩ = some (.int .i64 n) := (by rw [hb.cell (p := ⟨w.heap.size, 0, none⟩) (by first | (simp; done) | (simp; omega) | omega)]; first | (go_simp; done) | assumption); have hkw01 : w0.cell? ⟨w.heap.size, 1, none⟩ = some (.slice A len cap) := (by rw [hb.cell (p := ⟨w.heap.size, 1, none⟩) (by first | (simp; done) | (simp; omega) | omega)]; first | (go_simp; done) | assumption); clear hb
        go_wp2_with (go_at_call 10; refine (tawake_any _).mono ?_; rintro e w8 ⟨rfl, hb1⟩)
        go_ret
        exact ⟨rfl, (by repeat (first | exact Below.refl _ _ | assumption | refine Below.setCell ?_ (by first | (simp; done) | (simp; omega) | omega) _ | refine Below.drew ?_ | refine below_drewN ?_ _ | refine Below.alloc ?_ (by first | (simp; done) | (simp; omega) | omega) _ | refine below_alloc ?_ _ | refine below_step ?_ (by assumption)))⟩
      · have hd1 : decide ((len : Int) ≤ i) = false := decide_eq_false hi1
        obtain ⟨k, rfl⟩ : ∃ k : Nat, i = k := ⟨i.toNat, by omega⟩
        have c1 := fun W (hh : Below w.heap.size w W) => Bridges_any n A len cap l W (by omega) ((hx.below hh).more hh.size)
        by_cases hE : brE n l = 0
        · have hv := brE_zero hE
          obtain ⟨hn, hlen, hl⟩ := vNet_spec hv
          have hll := hx.1
          have hkl : k < l.length := by omega
          have hlt : k < len := by omega
          have hR := res_tape hv hkl
          have hbr := bridge_one hl hkl
          have hin := inK_all hkl
          have hL : brL n l = brK l l.length := by unfold brL; rw [hv]; rfl
          have hBL := brK_len l l.length
          have c2 := fun W (hh : Below w.heap.size w W) => Currents_any n A len cap l (tpA l k).1 (tpA l k).2.1 W (by omega) ((hx.below hh).more hh.size)
          rw [hR] at c2
          rw [hE, hL] at c1
          have hget : ∀ W B, CA W B (pcells (curL l (tpA l k).1 (tpA l k).2.1)) → W.cell? ⟨B, k * 2, none⟩ = some (.int .i64 (lowN (curF l (tpA l k).1 (tpA l k).2.1 k) (treesN l (tpA l k).1))) ∧ W.cell? ⟨B, k * 2 + 1, none⟩ = some (.int .i64 (lowD (curF l (tpA l k).1 (tpA l k).2.1 k) (treesN l (tpA l k).1))) := fun W B h => by
            have := pcells_get (curL l (tpA l k).1 (tpA l k).2.1) k (by rw [curL_len]; exact hkl)
            rw [curL_get hkl] at this
            exact ⟨(h.2 _ _ this.1).1, (h.2 _ _ this.2).1⟩
          rw [← hin] at hbr
          generalize brK l l.length = L at *
          generalize isBr l k = bb at *
          generalize curL l (tpA l k).1 (tpA l k).2.1 = CL at *
          generalize lowN (curF l (tpA l k).1 (tpA l k).2.1 k) (treesN l (tpA l k).1) = N at *
          generalize lowD (curF l (tpA l k).1 (tpA l k).2.1 k) (treesN l (tpA l k).1) = D at *
          have HX := Lib.hid hx
          have C0 := Lib.hid c0
          have C1 := Lib.hid c1
          have C2 := Lib.hid c2
          have HG := Lib.hid hget
          have HBR := Lib.hid hbr
          have hLl : L.length ≤ 10 := by omega
          clear c0 c1 c2 hx hs hE hL hget hin hbr hl hv hR hi0 hi1 hBL
          go_enter Try.func5, Try.ntmps5
          go_wp2_with fail
          refine (C0.out _).mono ?_
          rintro e w0 ⟨rfl, hb⟩
          have hB_w0 : Below w.heap.size w w0 := (by repeat (first | exact Below.refl _ _ | assumption | refine Below.setCell ?_ (by first | (simp; done) | (simp; omega) | omega) _ | refine Below.drew ?_ | refine below_drewN ?_ _ | refine Below.alloc ?_ (by first | (simp; done) | (simp; omega) | omega) _ | refine below_alloc ?_ _ | refine below_step ?_ (by assumption))); have hz_w0 := hB_w0.size; have hsw00 : w.heap.size < w0.heap.size := Nat.lt_of_lt_of_le (by first | (simp; done) | (simp; omega) | omega) hb.size; have hnw00 : ¬ w.heap.size = w0.heap.size := (by omega); have hmw00 : ¬ w0.heap.size = w.heap.size := (by omega); have hlw00_0 : w.heap.size ≤ w0.heap.size := (by omega); have hlw00_1 : w.heap.size ≤ w0.heap.size + 1 := (by omega); have hlw00_2 : w.heap.size ≤ w0.heap.size + 1 + 1 := (by omega); have hkw00 : w0.cell? ⟨w.heap.size, 0, none⟩ = some (.int .i64 n) := (by rw [hb.cell (p := ⟨w.heap.size, 0, none⟩) (by first | (simp; done) | (simp; omega) | omega)]; first | (go_simp; done) | assumption); have hkw01 : w0.cell? ⟨w.heap.size, 1, none⟩ = some (.slice A len cap) := (by rw [hb.cell (p := ⟨w.heap.size, 1, none⟩) (by first | (simp; done) | (simp; omega) | omega)]; first | (go_simp; done) | assumption); clear hb
          go_wp2_with fail
          refine (C1.out _ (by repeat (first | exact Below.refl _ _ | assumption | refine Below.setCell ?_ (by first | (simp; done) | (simp; omega) | omega) _ | refine Below.drew ?_ | refine below_drewN ?_ _ | refine Below.alloc ?_ (by first | (simp; done) | (simp; omega) | omega) _ | refine below_alloc ?_ _ | refine below_step ?_ (by assumption)))).mono ?_
          rintro e w1 ⟨⟨v1, rfl, ho1⟩, hb⟩
          obtain ⟨A1, cap1, rfl, hn1, hn2, hQ, hQ2⟩ := own_ints ho1
          have HQ := Lib.hid (And.intro hQ hQ2)
          clear hQ hQ2 ho1
          have hB_w1 : Below w.heap.size w w1 := (by repeat (first | exact Below.refl _ _ | assumption | refine Below.setCell ?_ (by first | (simp; done) | (simp; omega) | omega) _ | refine Below.drew ?_ | refine below_drewN ?_ _ | refine Below.alloc ?_ (by first | (simp; done) | (simp; omega) | omega) _ | refine below_alloc ?_ _ | refine below_step ?_ (by assumption))); have hz_w1 := hB_w1.size; have hsw10 : w.heap.size < w1.heap.size := Nat.lt_of_lt_of_le (by first | (simp; done) | (simp; omega) | omega) hb.size; have hnw10 : ¬ w.heap.size = w1.heap.size := (by omega); have hmw10 : ¬ w1.heap.size = w.heap.size := (by omega); have hlw10_0 : w.heap.size ≤ w1.heap.size := (by omega); have hlw10_1 : w.heap.size ≤ w1.heap.size + 1 := (by omega); have hlw10_2 : w.heap.size ≤ w1.heap.size + 1 + 1 := (by omega); have hkw10 : w1.cell? ⟨w.heap.size, 0, none⟩ = some (.int .i64 n) := (by rw [hb.cell (p := ⟨w.heap.size, 0, none⟩) (by first | (simp; done) | (simp; omega) | omega)]; first | (go_simp; done) | assumption); have hkw11 : w1.cell? ⟨w.heap.size, 1, none⟩ = some (.slice A len cap) := (by rw [hb.cell (p := ⟨w.heap.size, 1, none⟩) (by first | (simp; done) | (simp; omega) | omega)]; first | (go_simp; done) | assumption); clear hb hB_w0 hlw00_0 hlw00_1 hlw00_2 hkw00 hkw01
          obtain ⟨b0, off, rfl, hb0, hc1, hc2, hc3⟩ := rows_tp (HX.out.below hB_w1) k hlt
          generalize tpA l k = T at *
          have hkl1 : (k : Int) < len := by omega
          go_wp2
          (refine wp_region_mid 16 (by kernel_rfl) (by kernel_rfl) _ rfl ?_; simp only [List.take_succ_cons, List.take_zero, List.drop_succ_cons, List.drop_zero]; (repeat (go_big_quiet_step (fail))); refine wpQuiet_nil ?_; intro K hK; go_simp)
          refine (C2.out _ hB_w1.drew).mono ?_
          rintro e w2 ⟨⟨v2, rfl, hV, -⟩, hb2⟩
          obtain ⟨g, rfl, hg, hCA⟩ := hV rfl
          have hb : Below w1.heap.size w1 w2 := ((Below.refl _ w1).drew).trans (hb2.mono (by simp))
          (refine hK _ _ ?_; refine ⟨fun W => ∃ x : Same w2, W = x.val, ⟨⟨w2, rfl⟩, rfl⟩, ?_⟩; simp only [List.drop_succ_cons, List.drop_zero]; (repeat (go_big_quiet_step (fail))); refine wpQuiet_nil ?_; rintro _ ⟨xrest, rfl⟩; rw [xrest.h]; clear hK K)
          clear hV hb2
          have HQ2 := Lib.hid (HQ.out.1.below hb)
          obtain ⟨hN, hD⟩ := HG.out w2 g hCA
          have HN := Lib.hid hN
          have HD := Lib.hid hD
          clear hCA hN hD hc1 hc2 hc3
          have hB_w2 : Below w.heap.size w w2 := (by repeat (first | exact Below.refl _ _ | assumption | refine Below.setCell ?_ (by first | (simp; done) | (simp; omega) | omega) _ | refine Below.drew ?_ | refine below_drewN ?_ _ | refine Below.alloc ?_ (by first | (simp; done) | (simp; omega) | omega) _ | refine below_alloc ?_ _ | refine below_step ?_ (by assumption))); have hz_w2 := hB_w2.size; have hsw20 : w.heap.size < w2.heap.size := Nat.lt_of_lt_of_le (by first | (simp; done) | (simp; omega) | omega) hb.size; have hnw20 : ¬ w.heap.size = w2.heap.size := (by omega); have hmw20 : ¬ w2.heap.size = w.heap.size := (by omega); have hlw20_0 : w.heap.size ≤ w2.heap.size := (by omega); have hlw20_1 : w.heap.size ≤ w2.heap.size + 1 := (by omega); have hlw20_2 : w.heap.size ≤ w2.heap.size + 1 + 1 := (by omega); have hkw20 : w2.cell? ⟨w.heap.size, 0, none⟩ = some (.int .i64 n) := (by rw [hb.cell (p := ⟨w.heap.size, 0, none⟩) (by first | (simp; done) | (simp; omega) | omega)]; first | (go_simp; done) | assumption); have hkw21 : w2.cell? ⟨w.heap.size, 1, none⟩ = some (.slice (some ⟨b0, off, none⟩) len cap) := (by rw [hb.cell (p := ⟨w.heap.size, 1, none⟩) (by first | (simp; done) | (simp; omega) | omega)]; first | (go_simp; done) | assumption); clear hb hB_w1 hlw10_0 hlw10_1 hlw10_2 hkw10 hkw11
          go_wp2
          go_loop [9, 10] (fun x i => ∃ j : Nat, j ≤ L.length ∧ i = .int .i64 j ∧ x = .bool (inK L k j)) (fun _ i => L.length - (intOf i).toNat)
          case atStart => exact ⟨0, Nat.zero_le _, rfl, rfl⟩
          case round =>
            obtain ⟨j, hj, rfl, rfl⟩ := hrel
            by_cases hjl : j < L.length
            · have hsu := inK_succ (i := (k : Int)) hjl
              obtain ⟨b1, o1, hA1, hb1, hq1⟩ := HQ2.out.at_ j hjl
              have hjl1 : (j : Int) < L.length := by omega
              subst hA1
              generalize L[j]?.getD 0 = y at *
              have HSU := Lib.hid hsu
              clear hsu
              generalize hik : inK L k j = x at *
              cases x
              · cases hy : (y == (k : Int))
                · have HSU2 := Lib.hid (show inK L k (j + 1) = false by rw [HSU.out, hy]; rfl)
                  clear HSU hik
                  go_wp2
                  go_round
                  case rel => exact ⟨j + 1, by omega, by go_num, by rw [HSU2.out]⟩
                  case measure => simp [intOf]; omega
                · have HSU2 := Lib.hid (show inK L k (j + 1) = true by rw [HSU.out, hy]; rfl)
                  clear HSU hik
                  go_wp2
                  go_round
                  case rel => exact ⟨j + 1, by omega, by go_num, by rw [HSU2.out]⟩
                  case measure => simp [intOf]; omega
              · have HSU2 := Lib.hid (show inK L k (j + 1) = true by rw [HSU.out]; rfl)
                clear HSU hik
                go_wp2
                go_round
                case rel => exact ⟨j + 1, by omega, by go_num, by rw [HSU2.out]⟩
                case measure => simp [intOf]; omega
            · have hjn : j = L.length := by omega
              have hbr := HBR.out
              rw [← hjn] at hbr
              generalize inK L k j = x at *
              have hN := HN.out
              have hD := HD.out
              have hjl2 : ¬ (j : Int) < L.length := by omega
              have hek : ∀ (c : Bool), x = c → ((x == c) = true) := fun c h => by rw [h]; simp
              by_cases k1 : N = 1
              · by_cases k2 : D = 1
                · rw [k1, k2] at hbr
                  have hx1 : x = true := by simpa using hbr
                  subst k1 k2 hx1
                  clear hbr hek hjn
                  go_wp2_with (go_at_call 10; refine (tawake_any _).mono ?_; rintro e w8 ⟨rfl, hb1⟩)
                  go_ret
                  exact ⟨rfl, (by repeat (first | exact Below.refl _ _ | assumption | refine Below.setCell ?_ (by first | (simp; done) | (simp; omega) | omega) _ | refine Below.drew ?_ | refine below_drewN ?_ _ | refine Below.alloc ?_ (by first | (simp; done) | (simp; omega) | omega) _ | refine below_alloc ?_ _ | refine below_step ?_ (by assumption)))⟩
                · rw [k1, decide_eq_false k2] at hbr
                  have hx1 : x = false := by simpa using hbr
                  have k2' : (D == 1) = false := by simpa using k2
                  subst k1 hx1
                  clear hbr hek hjn k2
                  go_wp2_with (go_at_call 10; refine (tawake_any _).mono ?_; rintro e w8 ⟨rfl, hb1⟩)
                  go_ret
                  exact ⟨rfl, (by repeat (first | exact Below.refl _ _ | assumption | refine Below.setCell ?_ (by first | (simp; done) | (simp; omega) | omega) _ | refine Below.drew ?_ | refine below_drewN ?_ _ | refine Below.alloc ?_ (by first | (simp; done) | (simp; omega) | omega) _ | refine below_alloc ?_ _ | refine below_step ?_ (by assumption)))⟩
              · rw [decide_eq_false k1] at hbr
                have hx1 : x = false := by simpa using hbr
                have k1' : (N == 1) = false := by simpa using k1
                subst hx1
                clear hbr hek hjn k1
                go_wp2_with (go_at_call 10; refine (tawake_any _).mono ?_; rintro e w8 ⟨rfl, hb1⟩)
                go_ret
                exact ⟨rfl, (by repeat (first | exact Below.refl _ _ | assumption | refine Below.setCell ?_ (by first | (simp; done) | (simp; omega) | omega) _ | refine Below.drew ?_ | refine below_drewN ?_ _ | refine Below.alloc ?_ (by first | (simp; done) | (simp; omega) | omega) _ | refine below_alloc ?_ _ | refine below_step ?_ (by assumption)))⟩
        · generalize brE n l = E at *
          have hE' : (E == 0) = false := by simpa using hE
          have hE'' : (E != 0) = true := by simpa using hE
          have C0 := Lib.hid c0
          have C1 := Lib.hid c1
          clear c0 c1 hx hs hE AW
          go_enter Try.func5, Try.ntmps5
          go_wp2_with fail
          refine (C0.out _).mono ?_
          rintro e w0 ⟨rfl, hb⟩
          have hB_w0 : Below w.heap.size w w0 := (by repeat (first | exact Below.refl _ _ | assumption | refine Below.setCell ?_ (by first | (simp; done) | (simp; omega) | omega) _ | refine Below.drew ?_ | refine below_drewN ?_ _ | refine Below.alloc ?_ (by first | (simp; done) | (simp; omega) | omega) _ | refine below_alloc ?_ _ | refine below_step ?_ (by assumption))); have hz_w0 := hB_w0.size; have hsw00 : w.heap.size < w0.heap.size := Nat.lt_of_lt_of_le (by first | (simp; done) | (simp; omega) | omega) hb.size; have hnw00 : ¬ w.heap.size = w0.heap.size := (by omega); have hmw00 : ¬ w0.heap.size = w.heap.size := (by omega); have hlw00_0 : w.heap.size ≤ w0.heap.size := (by omega); have hlw00_1 : w.heap.size ≤ w0.heap.size + 1 := (by omega); have hlw00_2 : w.heap.size ≤ w0.heap.size + 1 + 1 := (by omega); have hkw00 : w0.cell? ⟨w.heap.size, 0, none⟩ = some (.int .i64 n) := (by rw [hb.cell (p := ⟨w.heap.size, 0, none⟩) (by first | (simp; done) | (simp; omega) | omega)]; first | (go_simp; done) | assumption); have hkw01 : w0.cell? ⟨w.heap.size, 1, none⟩ = some (.slice A len cap) := (by rw [hb.cell (p := ⟨w.heap.size, 1, none⟩) (by first | (simp; done) | (simp; omega) | omega)]; first | (go_simp; done) | assumption); clear hb
          go_wp2_with fail
          refine (C1.out _ (by repeat (first | exact Below.refl _ _ | assumption | refine Below.setCell ?_ (by first | (simp; done) | (simp; omega) | omega) _ | refine Below.drew ?_ | refine below_drewN ?_ _ | refine Below.alloc ?_ (by first | (simp; done) | (simp; omega) | omega) _ | refine below_alloc ?_ _ | refine below_step ?_ (by assumption)))).mono ?_
          rintro e w1 ⟨⟨v1, rfl, -⟩, hb⟩
          have hB_w1 : Below w.heap.size w w1 := (by repeat (first | exact Below.refl _ _ | assumption | refine Below.setCell ?_ (by first | (simp; done) | (simp; omega) | omega) _ | refine Below.drew ?_ | refine below_drewN ?_ _ | refine Below.alloc ?_ (by first | (simp; done) | (simp; omega) | omega) _ | refine below_alloc ?_ _ | refine below_step ?_ (by assumption))); have hz_w1 := hB_w1.size; clear hb hB_w0 hlw00_0 hlw00_1 hlw00_2 hkw00 hkw01
          go_wp2_with (go_at_call 10; refine (tawake_any _).mono ?_; rintro e w8 ⟨rfl, hb1⟩)
          go_ret
          exact ⟨rfl, (by repeat (first | exact Below.refl _ _ | assumption | refine Below.setCell ?_ (by first | (simp; done) | (simp; omega) | omega) _ | refine Below.drew ?_ | refine below_drewN ?_ _ | refine Below.alloc ?_ (by first | (simp; done) | (simp; omega) | omega) _ | refine below_alloc ?_ _ | refine below_step ?_ (by assumption)))⟩
  · have hs' : decide (len ≤ 30) = false := by simpa using hs
    rw [hs'] at c0
    have C0 := Lib.hid c0
    clear c0 hx hs hs' AW
    go_enter Try.func5, Try.ntmps5
    go_wp2_with fail
    refine (C0.out _).mono ?_
    rintro e w0 ⟨rfl, hb⟩
    have hB_w0 : Below w.heap.size w w0 := (by repeat (first | exact Below.refl _ _ | assumption | refine Below.setCell ?_ (by first | (simp; done) | (simp; omega) | omega) _ | refine Below.drew ?_ | refine below_drewN ?_ _ | refine Below.alloc ?_ (by first | (simp; done) | (simp; omega) | omega) _ | refine below_alloc ?_ _ | refine below_step ?_ (by assumption))); have hz_w0 := hB_w0.size; have hsw00 : w.heap.size < w0.heap.size := Nat.lt_of_lt_of_le (by first | (simp; done) | (simp; omega) | omega) hb.size; have hnw00 : ¬ w.heap.size = w0.heap.size := (by omega); have hmw00 : ¬ w0.heap.size = w.heap.size := (by omega); have hlw00_0 : w.heap.size ≤ w0.heap.size := (by omega); have hlw00_1 : w.heap.size ≤ w0.heap.size + 1 := (by omega); have hlw00_2 : w.heap.size ≤ w0.heap.size + 1 + 1 := (by omega); have hkw00 : w0.cell? ⟨w.heap.size, 0, none⟩ = some (.int .i64 n) := (by rw [hb.cell (p := ⟨w.heap.size, 0, none⟩) (by first | (simp; done) | (simp; omega) | omega)]; first | (go_simp; done) | assumption); have hkw01 : w0.cell? ⟨w.heap.size, 1, none⟩ = some (.slice A len cap) := (by rw [hb.cell (p := ⟨w.heap.size, 1, none⟩) (by first | (simp; done) | (simp; omega) | omega)]; first | (go_simp; done) | assumption); clear hb
    go_wp2_with (go_at_call 10; refine (tawake_any _).mono ?_; rintro e w8 ⟨rfl, hb1⟩)
    go_ret
    exact ⟨rfl, (by repeat (first | exact Below.refl _ _ | assumption | refine Below.setCell ?_ (by first | (simp; done) | (simp; omega) | omega) _ | refine Below.drew ?_ | refine below_drewN ?_ _ | refine Below.alloc ?_ (by first | (simp; done) | (simp; omega) | omega) _ | refine below_alloc ?_ _ | refine below_step ?_ (by assumption)))⟩
end Go.Proofs.Ytpfhfmnlojigpaa
