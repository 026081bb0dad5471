/- TapeBalances: the walk of the statement. -/
import Derived.Test.YtpfhfmnlojigpaaBalM
import Derived.Test.YtpfhfmnlojigpaaTape9
import Derived.Test.YtpfhfmnlojigpaaTreesM
set_option linter.unusedSimpArgs false
set_option linter.unusedVariables false
namespace Go.Proofs.Ytpfhfmnlojigpaa
open Go.RowKit
attribute [local go_sem] Later.cell Same.cell Oc.cell

/-- What stands in the loops: the argument's box, the row of the currents, the tapes. -/
def BlX (w wX : World) (W : World) : Prop := Below wX.heap.size wX W
theorem BlX.step {w wX W W' : World} (h : BlX w wX W) (hb : Below W.heap.size W W') : BlX w wX W' := below_step h hb
def BlI (wX wr : World) (l : List Tp) (a b v : Int) (sb : Nat) (j : Nat) (W : World) : Prop :=
  Below wX.heap.size wX W ∧ CA W sb [.int .i64 (lowN (nodS l a b v j) (treesN l a)), .int .i64 (lowD (nodS l a b v j) (treesN l a))]
theorem BlI.step {wX wr : World} {l : List Tp} {a b v : Int} {sb j : Nat} {W Y : World} (h : BlI wX wr l a b v sb j W) (hs : wX.heap.size ≤ sb) (hb : Below W.heap.size W Y) {N D : Int} (hN : N = lowN (nodS l a b v (j + 1)) (treesN l a)) (hD : D = lowD (nodS l a b v (j + 1)) (treesN l a)) :
    BlI wX wr l a b v sb (j + 1) ((Y.setCell ⟨sb, 0, none⟩ (.int .i64 N)).setCell ⟨sb, 1, none⟩ (.int .i64 D)) := by
  obtain ⟨h1, h2⟩ := h
  refine ⟨((below_step h1 hb).setCell (p := ⟨sb, 0, none⟩) hs _).setCell (p := ⟨sb, 1, none⟩) hs _, ?_⟩
  subst hN hD
  exact ((h2.later hb).set (k := 0) (by simp) _).set (k := 1) (by simp) _
set_option maxRecDepth 20000 in
set_option maxHeartbeats 16000000 in
theorem balances_walk (n : Int) (A : Option Addr) (len cap : Nat) (l : List Tp) (a b : Int) (w : World)
    (_ : -9223372036854775808 ≤ n ∧ n ≤ 9223372036854775807)
    (hm : len ≤ cap ∧ cap ≤ 9223372036854775807) (hx : Rows 3 int3 (0,0,0) w w.heap.size A len l) (_ : ∀ x ∈ l, (-9223372036854775808 ≤ x.1 ∧ x.1 ≤ 9223372036854775807) ∧ (-9223372036854775808 ≤ x.2.1 ∧ x.2.1 ≤ 9223372036854775807) ∧ (-9223372036854775808 ≤ x.2.2 ∧ x.2.2 ≤ 9223372036854775807))
    (_ : -9223372036854775808 ≤ a ∧ a ≤ 9223372036854775807) (_ : -9223372036854775808 ≤ b ∧ b ≤ 9223372036854775807) :
    Calls Try.prog 4 #[.agg #[.int .i64 n, .slice A len cap], .int .i64 a, .int .i64 b] w fun e w' => e = .returned (.bool true) ∧ Below w.heap.size w w' := by
  by_cases k1 : len ≤ 5
  · have d1 : decide ((5 : Int) < len) = false := decide_eq_false (by omega)
    by_cases k2 : n ≤ 6
    · have d2 : decide ((6 : Int) < n) = false := decide_eq_false (by omega)
      have c2 := fun W (hh : Below w.heap.size w W) => Currents_any n A len cap l a b W (by omega) ((hx.below hh).more hh.size)
      have HX := Lib.hid hx
      have hll := hx.1
      have C2 := Lib.hid c2
      clear c2 hx
      go_enter Try.func4, Try.ntmps4
      go_wp2
      obtain ⟨w1, hw1⟩ : ∃ q, q = w.alloc (.cells #[.int .i64 n, .slice A len cap] 24) := ⟨_, rfl⟩
      have hB1 : Below w.heap.size w w1 := by rw [hw1]; exact (Below.refl _ _).alloc (Nat.le_refl _) _
      have hs1 : w.heap.size < w1.heap.size := by rw [hw1]; simp
      have hN1 : CA w1 w.heap.size [.int .i64 n, .slice A len cap] := by rw [hw1]; exact CA.new w [.int .i64 n, .slice A len cap] 24
      rw [← hw1]
      clear hw1
      have hn0 := (hN1.2 0 _ rfl).1
      have hn1 := (hN1.2 1 _ rfl).1
      go_loop [7] (fun i => ∃ k : Nat, k ≤ len ∧ i = .int .i64 k ∧ ∀ j, j < k → (tpA l j).2.2 ≤ 6) (fun i => len - (intOf i).toNat)
      case atStart => exact ⟨0, Nat.zero_le _, rfl, fun j h => absurd h (by omega)⟩
      case round =>
        obtain ⟨k, hk, rfl, ht⟩ := hrel
        by_cases hlt : k < len
        · obtain ⟨b0, off, hA, hb0, hc1, hc2, hc3⟩ := rows_tp (HX.out.below hB1) k hlt
          have hkl : (k : Int) < len := by omega
          subst hA
          by_cases h6 : (tpA l k).2.2 ≤ 6
          · have HT := Lib.hid (show ∀ j, j < k + 1 → (tpA l j).2.2 ≤ 6 from fun j hj => by
              by_cases e : j = k
              · rw [e]; exact h6
              · exact ht j (by omega))
            generalize tpA l k = T at *
            have h6' : ¬ (6 : Int) < T.2.2 := by omega
            clear ht
            go_wp2
            go_round
            case rel => exact ⟨k + 1, by omega, by go_num, HT.out⟩
            case measure => simp [intOf]; omega
          · generalize tpA l k = T at *
            have h6' : (6 : Int) < T.2.2 := by omega
            clear ht h6
            go_wp2_with (go_at_call 10; refine (tawake_any _).mono ?_; rintro e w8 ⟨rfl, hb1⟩)
            go_ret
            exact ⟨rfl, below_step hB1 hb1⟩
        · have hkn : k = len := by omega
          have hkl : ¬ (k : Int) < len := by omega
          have HT := Lib.hid ht
          clear ht
          go_wp2_with fail
          refine (C2.out _ hB1).mono ?_
          rintro e w2 ⟨⟨v2, rfl, hV, hV'⟩, hb⟩
          by_cases hE : resE n l a b = 0
          · obtain ⟨hv, ha, hb', hab, -⟩ := res_ok hE
            obtain ⟨hn, hlen, hl⟩ := vNet_spec hv
            have h6 : ∀ t, t ∈ l → t.2.2 ≤ 6 := by
              intro t ht
              obtain ⟨j, hj, rfl⟩ := List.getElem_of_mem ht
              have := HT.out j (by omega)
              unfold tpA at this
              rw [List.getElem?_eq_getElem hj] at this
              exact this
            have hT := trees_small hl h6 (by omega) ha
            obtain ⟨g, rfl, hg, hCA⟩ := hV hE
            rw [hE]
            have hgs := hCA.1
            have hN2 := hN1.later hb
            have hB2 : Below w.heap.size w w2 := below_step hB1 hb
            have hs2 : w.heap.size < w2.heap.size := hN2.1
            obtain ⟨N, rfl⟩ : ∃ N : Nat, n = N := ⟨n.toNat, by omega⟩
            have hFB := fun j (h : j < l.length) => curF_bd hl ha hb' hab h
            have hNB := fun v j (h : j ≤ l.length) => nodS_bd hl ha hb' hab v j h
            have hNA := fun v => nodS_all hl ha hb' hab v
            have hm0 := (hN2.2 0 _ rfl).1
            have hm1 := (hN2.2 1 _ rfl).1
            have HCA := Lib.hid hCA
            have HN2 := Lib.hid hN2
            have HFB := Lib.hid hFB
            have HNB := Lib.hid hNB
            have HNA := Lib.hid hNA
            have HTA := Lib.hid (fun j (h : j < l.length) => vNet_mem hv h)
            clear hCA hN2 hV hV' HT hb hN1 hE hFB hNB hNA h6 hab hl hn0 hn1 C2
            obtain ⟨hT1, hT2⟩ := hT
            go_wp2
            go_loopw [10] (fun i wr => ∃ v : Nat, v ≤ N ∧ i = .int .i64 v ∧ Below w2.heap.size w2 wr) (fun i _ => N - (intOf i).toNat)
            case atStart => exact ⟨0, Nat.zero_le _, rfl, Below.refl _ _⟩
            case round =>
              obtain ⟨v, hv1, rfl, hBo⟩ := hrel
              have hn0 := (HN2.out.below hBo hs2).2 0 _ rfl
              obtain ⟨hn0, -⟩ := hn0
              have hso := hBo.size
              by_cases hvN : v < N
              · have hvN1 : (v : Int) < N := by omega
                obtain ⟨wo, hwo⟩ : ∃ q, q = wr := ⟨_, rfl⟩
                rw [← hwo] at hBo hn0 hso ⊢
                clear hwo
                go_wp2
                go_loopw [12] (fun i W => ∃ j : Nat, j ≤ len ∧ i = .int .i64 j ∧ BlI w2 wo l a b v wo.heap.size j W) (fun i _ => len - (intOf i).toNat)
                case atStart =>
                  refine ⟨0, Nat.zero_le _, rfl, hBo.alloc hso _, ?_⟩
                  have e : nodS l a b v 0 = 0 := rfl
                  rw [e, (low_zero hT1).1, (low_zero hT1).2]
                  exact CA.new wo [.int .i64 0, .int .i64 1] 28
                case round =>
                  obtain ⟨j, hj, rfl, hI⟩ := hrel
                  have hsb : wo.heap.size < wr.heap.size := hI.2.1
                  have hnb : ¬ w.heap.size = wo.heap.size := by omega
                  obtain ⟨hn0, -⟩ := (HN2.out.below hI.1 hs2).2 0 _ rfl
                  obtain ⟨hn1, -⟩ := (HN2.out.below hI.1 hs2).2 1 _ rfl
                  obtain ⟨hS0, -⟩ := hI.2.2 0 _ rfl
                  obtain ⟨hS1, -⟩ := hI.2.2 1 _ rfl
                  have hwz : w.heap.size < wr.heap.size := by omega
                  have HI := Lib.hid hI
                  clear hI
                  by_cases hjl : j < len
                  · have hjl1 : (j : Int) < len := by omega
                    have hjp : j < l.length := by omega
                    obtain ⟨b0, off, hA, hb0, hc1, hc2, hc3⟩ := rows_tp (HX.out.below (hB2.trans (HI.out.1.mono (by omega)))) j hjl
                    have hpc := pcells_get (curL l a b) j (by rw [curL_len]; exact hjp)
                    rw [curL_get hjp] at hpc
                    obtain ⟨hr0, -⟩ := (HCA.out.below HI.out.1 hgs).2 _ _ hpc.1
                    obtain ⟨hr1, -⟩ := (HCA.out.below HI.out.1 hgs).2 _ _ hpc.2
                    clear hpc
                    have hfb := HFB.out j hjp
                    have hnb1 := HNB.out v j (by omega)
                    have hnb2 := HNB.out v (j + 1) (by omega)
                    have htm := HTA.out j hjp
                    have hgr : g < wr.heap.size := by omega
                    have hgn : ¬ g = wo.heap.size := by omega
                    have hbn : ¬ b0 = wo.heap.size := by omega
                    have hbr : b0 < wr.heap.size := by omega
                    have hns0 := nodS_succ l a b v j
                    obtain ⟨hstN, hstD⟩ := bal_step (S := nodS l a b v j) (F := curF l a b j) (s := sgT v (tpA l j)) hT1
                    rw [← hns0] at hstN hstD
                    have hTj : treesN l a * (j : Int) ≤ 16807 * 5 := Int.mul_le_mul hT2 (by omega) (by omega) (by decide)
                    have hTj1 : treesN l a * ((j + 1 : Nat) : Int) ≤ 16807 * 5 := Int.mul_le_mul hT2 (by omega) (by omega) (by decide)
                    have hlb1 := low_bd (n := nodS l a b v j) (N := 100000) hT1 (by omega) (by omega)
                    have hlb2 := low_bd (n := nodS l a b v (j + 1)) (N := 100000) hT1 (by omega) (by omega)
                    have hlb3 := low_bd (n := curF l a b j) (N := 16807) hT1 (by omega) (by omega)
                    have hwr := fun hs => bal_wrap (s := sgT v (tpA l j)) hlb1.1 (q := lowD (nodS l a b v j) (treesN l a)) ⟨hlb1.2.1, by omega⟩ hlb3.1 (v := lowD (curF l a b j) (treesN l a)) ⟨hlb3.2.1, by omega⟩ hs
                    have hns : lowN (nodS l a b v (j + 1)) (treesN l a) = lowN (nodS l a b v (j + 1)) (treesN l a) ∧ lowD (nodS l a b v (j + 1)) (treesN l a) = lowD (nodS l a b v (j + 1)) (treesN l a) := ⟨rfl, rfl⟩
                    clear hnb1 hnb2 hfb hns0 hTj hTj1
                    have hsT : sgT v (tpA l j) = (if (tpA l j).1 = v then 1 else 0) - (if (tpA l j).2.1 = v then 1 else 0) := rfl
                    generalize hN2e : lowN (nodS l a b v (j + 1)) (treesN l a) = N2 at *
                    generalize hD2e : lowD (nodS l a b v (j + 1)) (treesN l a) = D2 at *
                    generalize hsNe : lowN (nodS l a b v j) (treesN l a) = sN at *
                    generalize hsDe : lowD (nodS l a b v j) (treesN l a) = sD at *
                    generalize hcNe : lowN (curF l a b j) (treesN l a) = cN at *
                    generalize hcDe : lowD (curF l a b j) (treesN l a) = cD at *
                    have hns : N2 = lowN (nodS l a b v (j + 1)) (treesN l a) ∧ D2 = lowD (nodS l a b v (j + 1)) (treesN l a) := ⟨hN2e.symm, hD2e.symm⟩
                    have HNS := Lib.hid hns
                    clear hN2e hD2e hsNe hsDe hcNe hcDe hns
                    have e1 : decide (cD < 1) = false := decide_eq_false (by omega)
                    have e2 : decide ((100000 : Int) < cD) = false := decide_eq_false (by omega)
                    have e3 : decide ((100000 : Int) < cN) = false := decide_eq_false (by omega)
                    have e4 : decide (cN < -100000) = false := decide_eq_false (by omega)
                    have e5 : decide ((10000000 : Int) < D2) = false := decide_eq_false (by omega)
                    have e6 : decide ((100000000 : Int) < N2) = false := decide_eq_false (by omega)
                    have e7 : decide (N2 < -100000000) = false := decide_eq_false (by omega)
                    subst hA
                    by_cases hA1 : (tpA l j).1 = v
                    · have hB1 : ¬ (tpA l j).2.1 = v := by omega
                      have hsg : sgT v (tpA l j) = 1 := by rw [hsT, if_pos hA1, if_neg hB1]; rfl
                      have f1 : ((tpA l j).1 == (v : Int)) = true := by simpa using hA1
                      have f2 : ((tpA l j).2.1 == (v : Int)) = false := by simpa using hB1
                      have hns := HNS.out
                      clear hsT hA1 hB1
                      generalize sgT v (tpA l j) = sg at *
                      generalize tpA l j = T at *
                      rw [hsg] at hstN hstD hwr
                      obtain ⟨⟨wr1, wr2⟩, ⟨wr3, wr4⟩, ⟨wr5, wr6⟩, wr7, wr8⟩ := hwr (by decide)
                      have q1 : IntKind.i64.wrap (sN * cD) = sN * cD := IntWalk.i64_in _ (by omega)
                      have q2 : IntKind.i64.wrap (sD * cD) = sD * cD := IntWalk.i64_in _ (by omega)
                      have q3 : IntKind.i64.wrap cN = cN := IntWalk.i64_in _ (by omega)
                      have q4 : IntKind.i64.wrap (-cN) = -cN := IntWalk.i64_in _ (by omega)
                      have q5 : IntKind.i64.wrap (1 * cN) = 1 * cN := IntWalk.i64_in _ (by omega)
                      have q6 : IntKind.i64.wrap (1 * cN * sD) = 1 * cN * sD := IntWalk.i64_in _ (by omega)
                      have q7 : IntKind.i64.wrap (sN * cD + 1 * cN * sD) = sN * cD + 1 * cN * sD := IntWalk.i64_in _ (by omega)
                      have q8 := q6
                      have q9 := q7
                      simp only [Int.neg_mul, Int.one_mul] at q8 q9
                      have HI2 := Lib.hid (fun Y hb => HI.out.step (Y := Y) (by omega) hb hns.1 hns.2)
                      have CLO := Lib.hid (fun x y W (h1 : x = sN * cD + 1 * cN * sD) (h2 : y = sD * cD) => show Calls Try.prog 16 #[.int .i64 x, .int .i64 y] W (fun e w' => e = .returned (.agg #[.int .i64 N2, .int .i64 D2]) ∧ Below W.heap.size W w') from by
                        rw [h1, h2, ← hstN, ← hstD]
                        exact Lowest_any _ _ W (by omega) (by omega) (by omega) (by omega))
                      clear hstN hstD hwr hns hsg wr1 wr2 wr3 wr4 wr5 wr6 wr7 wr8
                      go_upto_region 28 with fail
                      (refine wp_region_tail 27 (by kernel_rfl) (by kernel_rfl) ?_; simp only [List.take_succ_cons, List.take_zero, List.drop_succ_cons, List.drop_zero]; (repeat (go_big_quiet_step (fail))); refine wpQuiet_nil ?_)
                      go_wp2_with (go_at_call 16; refine (CLO.out _ _ _ (by first | rfl | (simp only [Int.neg_mul, Int.one_mul]; done) | (simp only [Int.neg_mul, Int.one_mul]; omega)) rfl).mono ?_; rintro e w7 ⟨rfl, hb7⟩; have hb8 : Below wr.heap.size wr w7 := ((Below.refl _ wr).drew).trans (hb7.mono (by simp)); obtain ⟨z0, f0⟩ := (HI.out.2.later hb8).2 0 _ rfl; obtain ⟨z1, f1⟩ := (HI.out.2.later hb8).2 1 _ rfl)
                      go_roundw
                      case rel => exact ⟨j + 1, by omega, by go_num, HI2.out w7 hb8⟩
                      case measure => simp [intOf]; omega
                    · by_cases hB1 : (tpA l j).2.1 = v
                      · have hsg : sgT v (tpA l j) = -1 := by rw [hsT, if_neg hA1, if_pos hB1]; rfl
                        have f1 : ((tpA l j).1 == (v : Int)) = false := by simpa using hA1
                        have f2 : ((tpA l j).2.1 == (v : Int)) = true := by simpa using hB1
                        have hns := HNS.out
                        clear hsT hA1 hB1
                        generalize sgT v (tpA l j) = sg at *
                        generalize tpA l j = T at *
                        rw [hsg] at hstN hstD hwr
                        obtain ⟨⟨wr1, wr2⟩, ⟨wr3, wr4⟩, ⟨wr5, wr6⟩, wr7, wr8⟩ := hwr (by decide)
                        have q1 : IntKind.i64.wrap (sN * cD) = sN * cD := IntWalk.i64_in _ (by omega)
                        have q2 : IntKind.i64.wrap (sD * cD) = sD * cD := IntWalk.i64_in _ (by omega)
                        have q3 : IntKind.i64.wrap cN = cN := IntWalk.i64_in _ (by omega)
                        have q4 : IntKind.i64.wrap (-cN) = -cN := IntWalk.i64_in _ (by omega)
                        have q5 : IntKind.i64.wrap (-1 * cN) = -1 * cN := IntWalk.i64_in _ (by omega)
                        have q6 : IntKind.i64.wrap (-1 * cN * sD) = -1 * cN * sD := IntWalk.i64_in _ (by omega)
                        have q7 : IntKind.i64.wrap (sN * cD + -1 * cN * sD) = sN * cD + -1 * cN * sD := IntWalk.i64_in _ (by omega)
                        have q8 := q6
                        have q9 := q7
                        simp only [Int.neg_mul, Int.one_mul] at q8 q9
                        have q10 : IntKind.i64.wrap (-cN * sD) = -cN * sD := by rw [Int.neg_mul]; exact q8
                        have q11 : IntKind.i64.wrap (sN * cD + -cN * sD) = sN * cD + -cN * sD := by rw [Int.neg_mul]; exact q9
                        have HI2 := Lib.hid (fun Y hb => HI.out.step (Y := Y) (by omega) hb hns.1 hns.2)
                        have CLO := Lib.hid (fun x y W (h1 : x = sN * cD + -1 * cN * sD) (h2 : y = sD * cD) => show Calls Try.prog 16 #[.int .i64 x, .int .i64 y] W (fun e w' => e = .returned (.agg #[.int .i64 N2, .int .i64 D2]) ∧ Below W.heap.size W w') from by
                          rw [h1, h2, ← hstN, ← hstD]
                          exact Lowest_any _ _ W (by omega) (by omega) (by omega) (by omega))
                        clear hstN hstD hwr hns hsg wr1 wr2 wr3 wr4 wr5 wr6 wr7 wr8
                        go_upto_region 28 with fail
                        (refine wp_region_tail 27 (by kernel_rfl) (by kernel_rfl) ?_; simp only [List.take_succ_cons, List.take_zero, List.drop_succ_cons, List.drop_zero]; (repeat (go_big_quiet_step (fail))); refine wpQuiet_nil ?_)
                        go_wp2_with (go_at_call 16; refine (CLO.out _ _ _ (by first | rfl | (simp only [Int.neg_mul, Int.one_mul]; done) | (simp only [Int.neg_mul, Int.one_mul]; omega)) rfl).mono ?_; rintro e w7 ⟨rfl, hb7⟩; have hb8 : Below wr.heap.size wr w7 := ((Below.refl _ wr).drew).trans (hb7.mono (by simp)); obtain ⟨z0, f0⟩ := (HI.out.2.later hb8).2 0 _ rfl; obtain ⟨z1, f1⟩ := (HI.out.2.later hb8).2 1 _ rfl)
                        go_roundw
                        case rel => exact ⟨j + 1, by omega, by go_num, HI2.out w7 hb8⟩
                        case measure => simp [intOf]; omega
                      · have hsg : sgT v (tpA l j) = 0 := by rw [hsT, if_neg hA1, if_neg hB1]; rfl
                        have f1 : ((tpA l j).1 == (v : Int)) = false := by simpa using hA1
                        have f2 : ((tpA l j).2.1 == (v : Int)) = false := by simpa using hB1
                        have hsq := hsg
                        clear hsT hA1 hB1 HNS hwr
                        have HE := Lib.hid (show BlI w2 wo l a b v wo.heap.size (j + 1) wr from by
                          have h := HI.out
                          unfold BlI at h ⊢
                          rw [nodS_succ, hsg, Int.zero_mul, Int.add_zero]
                          exact h)
                        clear hsg hstN hstD
                        go_wp2
                        go_roundw
                        case rel => exact ⟨j + 1, by omega, by go_num, HE.out⟩
                        case measure => simp [intOf]; omega
                  · have hjn : j = l.length := by omega
                    have hjl1 : ¬ (j : Int) < len := by omega
                    have hna := HNA.out v
                    have hlow := low_times (T := treesN l a) (w := (if a = b then 0 else (if a = v then 1 else 0) - (if b = v then 1 else 0))) hT1
                    rw [← hna] at hlow
                    obtain ⟨wdef, hwd⟩ : ∃ q, q = (if a = b then (0 : Int) else (if a = v then 1 else 0) - (if b = v then 1 else 0)) := ⟨_, rfl⟩
                    rw [← hwd] at hlow
                    clear hna
                    by_cases g1 : a = b
                    · have hwn : wdef = 0 := by rw [hwd, if_pos g1]
                      have f1 : (a == b) = true := by simpa using g1
                      have f2 : (a != b) = false := by simp [g1]
                      clear hwd g1
                      rw [hwn] at hlow
                      have hN := HI.out.2.2 0 _ rfl
                      have hD := HI.out.2.2 1 _ rfl
                      rw [hjn, hlow.1] at hN
                      rw [hjn, hlow.2] at hD
                      obtain ⟨hN, -⟩ := hN
                      obtain ⟨hD, -⟩ := hD
                      have HB := Lib.hid HI.out.1
                      clear hlow hwn hjn HI hS0 hS1
                      go_wp2
                      go_roundw
                      case rel => exact ⟨v + 1, by omega, by go_num, HB.out⟩
                      case measure => simp [intOf]; omega
                    · have f1 : (a == b) = false := by simpa using g1
                      have f2 : (a != b) = true := by simpa using g1
                      by_cases g2 : a = v
                      · have g3 : ¬ b = v := by omega
                        have hwn : wdef = 1 := by rw [hwd, if_neg g1, if_pos g2, if_neg g3]; rfl
                        have f3 : ((v : Int) == a) = true := by simp [g2]
                        have f4 : ((v : Int) == b) = false := by simp; omega
                        clear hwd g1 g2 g3
                        rw [hwn] at hlow
                        have hN := HI.out.2.2 0 _ rfl
                        have hD := HI.out.2.2 1 _ rfl
                        rw [hjn, hlow.1] at hN
                        rw [hjn, hlow.2] at hD
                        obtain ⟨hN, -⟩ := hN
                        obtain ⟨hD, -⟩ := hD
                        have HB := Lib.hid HI.out.1
                        clear hlow hwn hjn HI hS0 hS1
                        go_wp2
                        go_roundw
                        case rel => exact ⟨v + 1, by omega, by go_num, HB.out⟩
                        case measure => simp [intOf]; omega
                      · have f3 : ((v : Int) == a) = false := by simp; omega
                        by_cases g3 : b = v
                        · have hwn : wdef = -1 := by rw [hwd, if_neg g1, if_neg g2, if_pos g3]; rfl
                          have f4 : ((v : Int) == b) = true := by simp [g3]
                          clear hwd g1 g2 g3
                          rw [hwn] at hlow
                          have hN := HI.out.2.2 0 _ rfl
                          have hD := HI.out.2.2 1 _ rfl
                          rw [hjn, hlow.1] at hN
                          rw [hjn, hlow.2] at hD
                          obtain ⟨hN, -⟩ := hN
                          obtain ⟨hD, -⟩ := hD
                          have HB := Lib.hid HI.out.1
                          clear hlow hwn hjn HI hS0 hS1
                          go_wp2
                          go_roundw
                          case rel => exact ⟨v + 1, by omega, by go_num, HB.out⟩
                          case measure => simp [intOf]; omega
                        · have hwn : wdef = 0 := by rw [hwd, if_neg g1, if_neg g2, if_neg g3]; rfl
                          have f4 : ((v : Int) == b) = false := by simp; omega
                          clear hwd g1 g2 g3
                          rw [hwn] at hlow
                          have hN := HI.out.2.2 0 _ rfl
                          have hD := HI.out.2.2 1 _ rfl
                          rw [hjn, hlow.1] at hN
                          rw [hjn, hlow.2] at hD
                          obtain ⟨hN, -⟩ := hN
                          obtain ⟨hD, -⟩ := hD
                          have HB := Lib.hid HI.out.1
                          clear hlow hwn hjn HI hS0 hS1
                          go_wp2
                          go_roundw
                          case rel => exact ⟨v + 1, by omega, by go_num, HB.out⟩
                          case measure => simp [intOf]; omega
              · have hvN1 : ¬ (v : Int) < N := by omega
                have hBw : Below w.heap.size w wr := hB2.trans (hBo.mono (by omega))
                go_wp2_with (go_at_call 10; refine (tawake_any _).mono ?_; rintro e w8 ⟨rfl, hb1⟩)
                go_ret
                exact ⟨rfl, below_step hBw hb1⟩
          · obtain rfl := hV' hE
            generalize resE n l a b = E at *
            have hE' : (E == 0) = false := by simpa using hE
            have hE'' : (E != 0) = true := by simpa using hE
            clear hV hV' hE
            go_wp2_with (go_at_call 10; refine (tawake_any _).mono ?_; rintro e w8 ⟨rfl, hb1⟩)
            go_ret
            exact ⟨rfl, below_step (below_step hB1 hb) hb1⟩
    · have d2 : decide ((6 : Int) < n) = true := decide_eq_true (by omega)
      clear hx
      go_enter Try.func4, Try.ntmps4
      go_wp2_with (go_at_call 10; refine (tawake_any _).mono ?_; rintro e w8 ⟨rfl, hb1⟩)
      go_ret
      exact ⟨rfl, (by repeat (first | exact Below.refl _ _ | assumption | refine Below.setCell ?_ (by first | (simp; done) | (simp; omega) | omega) _ | refine Below.drew ?_ | refine below_drewN ?_ _ | refine Below.alloc ?_ (by first | (simp; done) | (simp; omega) | omega) _ | refine below_alloc ?_ _ | refine below_step ?_ (by assumption)))⟩
  · have d1 : decide ((5 : Int) < len) = true := decide_eq_true (by omega)
    clear hx
    go_enter Try.func4, Try.ntmps4
    go_wp2_with (go_at_call 10; refine (tawake_any _).mono ?_; rintro e w8 ⟨rfl, hb1⟩)
    go_ret
    exact ⟨rfl, (by repeat (first | exact Below.refl _ _ | assumption | refine Below.setCell ?_ (by first | (simp; done) | (simp; omega) | omega) _ | refine Below.drew ?_ | refine below_drewN ?_ _ | refine Below.alloc ?_ (by first | (simp; done) | (simp; omega) | omega) _ | refine below_alloc ?_ _ | refine below_step ?_ (by assumption)))⟩
end Go.Proofs.Ytpfhfmnlojigpaa
