/- RopeLevers: the walk of the statement. -/
import Derived.Test.YthninhkimhnegaaLevM
import Derived.Test.YthninhkimhnegaaAppend
import Derived.Test.YthninhkimhnegaaAwake4
import Derived.OwnWalk
set_option linter.unusedSimpArgs false
set_option linter.unusedVariables false
namespace Go.Proofs.Ythninhkimhnegaa
open Go.RowKit
attribute [local go_sem] Later.cell

theorem info_load : (Try.prog.info? 48).map (fun i => (i.zero, i.size, i.bytes)) = some (some (.agg #[.int .i64 0, .int .i64 0]), 2, 16) := by kernel_rfl

set_option maxRecDepth 100000 in
set_option maxHeartbeats 4000000 in
theorem levers_walk (span : Int) (A : Option Addr) (len cap : Nat) (xs : List (Int × Int)) (i to : Int) (w : World) (_ : -9223372036854775808 ≤ span ∧ span ≤ 9223372036854775807) (hm : len ≤ cap ∧ cap ≤ 9223372036854775807) (hx : Pairs w w.heap.size A len xs)
    (_ : ∀ p ∈ xs, (-9223372036854775808 ≤ p.1 ∧ p.1 ≤ 9223372036854775807) ∧ -9223372036854775808 ≤ p.2 ∧ p.2 ≤ 9223372036854775807) (_ : -9223372036854775808 ≤ i ∧ i ≤ 9223372036854775807) (_ : -9223372036854775808 ≤ to ∧ to ≤ 9223372036854775807) :
    Calls Try.prog 7 #[.agg #[.int .i64 span, .slice A len cap], .int .i64 i, .int .i64 to] w fun e w' => e = .returned (.bool true) ∧ Below w.heap.size w w' := by
  by_cases hlen : 20 < len
  · clear hx
    go_enter Try.func7, Try.ntmps7
    go_wp2_with (go_at_call 26; refine (awake_any _).mono ?_; rintro e w1 ⟨rfl, hb1⟩)
    go_ret
    exact ⟨rfl, (by repeat (first | exact Below.refl _ _ | assumption | refine Below.setCell ?_ (by first | (simp; done) | (simp; omega) | omega) _ | refine Below.drew ?_ | refine below_drewN ?_ _ | refine Below.alloc ?_ (by first | (simp; done) | (simp; omega) | omega) _ | refine below_alloc ?_ _ | refine below_step ?_ (by assumption)))⟩
  · have c1 := fun W (h : Below w.heap.size w W) => Shares_any span A len cap xs W (by omega) ((hx.below h).more h.size)
    by_cases hg : goodL span xs = true
    · obtain ⟨⟨g1, g2⟩, g3, g4⟩ := goodL_spec hg
      have hE : goodE span xs = 0 := if_pos hg
      rw [hE] at c1
      have hsum := sums_bd (span := 100000) (by decide) (by decide) (fun x hx => by have := g4 x hx; omega)
      have hS := Lib.hid (levers_sum hg)
      have hM := Lib.hid (fun i (hi : i < xs.length) to h0 h1 ys hy => levers_moved hg (i := i) hi (to := to) h0 h1 (ys := ys) hy)
      have hG := Lib.hid (fun i (hi : i < xs.length) to h0 h1 => goodL_set hg (i := i) hi (to := to) h0 h1)
      obtain ⟨⟨a1, a2⟩, ⟨b1, b2⟩, ⟨n1, n2⟩, ⟨m1, m2⟩, hsm, _, _⟩ := levers_sum hg
      generalize shareN1 span xs = N1 at *
      generalize shareD1 span xs = D1 at *
      generalize shareN2 span xs = N2 at *
      generalize shareD2 span xs = D2 at *
      have p1 : 0 ≤ N1 * D2 ∧ N1 * D2 ≤ 2000000000000 * 100000 := ⟨Int.mul_nonneg n1 (by omega), Int.mul_le_mul n2 b2 (by omega) (by decide)⟩
      have p2 : 0 ≤ N2 * D1 ∧ N2 * D1 ≤ 2000000000000 * 100000 := ⟨Int.mul_nonneg m1 (by omega), Int.mul_le_mul m2 a2 (by omega) (by decide)⟩
      have p3 : 1 ≤ D1 * D2 := by have := Int.mul_le_mul a1 b1 (by decide) (by omega); omega
      have p4 : D1 * D2 ≤ 100000 * 100000 := Int.mul_le_mul a2 b2 (by omega) (by decide)
      have c2 := fun W => Lowest_any (N1 * D2 + N2 * D1) (D1 * D2) W p3 (by omega) (by omega) (by omega)
      obtain ⟨q1, q2⟩ := low_one (W := wsum xs) p3
      rw [hsm, q1, q2, ← hsm] at c2
      have HX := Lib.hid hx
      have C1 := Lib.hid c1
      have C2 := Lib.hid c2
      have HS := Lib.hid hsum
      have hWb := (sums_all (n := 20) (by omega) g2 g4 g3).1
      have HW := Lib.hid hWb
      clear c1 c2 hsum q1 q2 hsm hg hE hx g4 hWb
      go_enter Try.func7, Try.ntmps7
      go_wp2_with fail
      refine (C1.out _ (by repeat (first | exact Below.refl _ _ | assumption | refine Below.setCell ?_ (by first | (simp; done) | (simp; omega) | omega) _ | refine Below.drew ?_ | refine below_drewN ?_ _ | refine Below.alloc ?_ (by first | (simp; done) | (simp; omega) | omega) _ | refine below_alloc ?_ _ | refine below_step ?_ (by assumption)))).mono ?_
      rintro e w1 ⟨rfl, hb⟩
      have hB_w1 : Below w.heap.size w w1 := (by repeat (first | exact Below.refl _ _ | assumption | refine Below.setCell ?_ (by first | (simp; done) | (simp; omega) | omega) _ | refine Below.drew ?_ | refine below_drewN ?_ _ | refine Below.alloc ?_ (by first | (simp; done) | (simp; omega) | omega) _ | refine below_alloc ?_ _ | refine below_step ?_ (by assumption))); have hz_w1 := hB_w1.size; have hsw10 : w.heap.size < w1.heap.size := Nat.lt_of_lt_of_le (by first | (simp; done) | (simp; omega) | omega) hb.size; have hnw10 : ¬ w.heap.size = w1.heap.size := (by omega); have hmw10 : ¬ w1.heap.size = w.heap.size := (by omega); have hlw10_0 : w.heap.size ≤ w1.heap.size := (by omega); have hlw10_1 : w.heap.size ≤ w1.heap.size + 1 := (by omega); have hlw10_2 : w.heap.size ≤ w1.heap.size + 1 + 1 := (by omega); have hkw10 : w1.cell? ⟨w.heap.size, 0, none⟩ = some (.int .i64 span) := (by rw [hb.cell (p := ⟨w.heap.size, 0, none⟩) (by first | (simp; done) | (simp; omega) | omega)]; first | (go_simp; done) | assumption); have hkw11 : w1.cell? ⟨w.heap.size, 1, none⟩ = some (.slice A len cap) := (by rw [hb.cell (p := ⟨w.heap.size, 1, none⟩) (by first | (simp; done) | (simp; omega) | omega)]; first | (go_simp; done) | assumption); clear hb
      go_wp2_with fail
      go_loop [10, 11] (fun s j => ∃ (k : Nat), k ≤ len ∧ j = .int .i64 k ∧ s = .int .i64 (wsum (xs.take k))) (fun _ j => len - (intOf j).toNat)
      case atStart => exact ⟨0, Nat.zero_le _, rfl, rfl⟩
      case round =>
        obtain ⟨k, hk, rfl, rfl⟩ := hrel
        by_cases hlt : k < len
        · obtain ⟨b, off, rfl, hb0, hc1, hc2⟩ := (HX.out.below hB_w1).at_ k hlt
          have hlen : k < xs.length := by rw [HX.out.1]; exact hlt
          have h1 := (HS.out k (by omega)).1
          have h2 := (HS.out (k + 1) (by omega)).1
          have ht : Hid (xs.take (k+1) = xs.take k ++ [xs[k]?.getD (0,0)]) := take_snoc' hlen
          rw [ht.out, wsum_snoc] at h2
          generalize xs[k]?.getD (0,0) = X at *
          obtain ⟨X, Y⟩ := X
          dsimp only at hc1 hc2 h2
          have hb1 : b < w1.heap.size := by omega
          have hb2 : b < w1.heap.size + 1 := by omega
          have hE : Hid (wsum (xs.take (k+1)) = wsum (xs.take k) + Y) := by
            show _ = _
            rw [ht.out, wsum_snoc]
          generalize wsum (xs.take k) = S at *
          clear ht
          go_wp2
          go_round
          case rel => exact ⟨k + 1, by omega, by go_num, by rw [hE.out]⟩
          case measure => simp [intOf]; omega
        · have hkl : xs.take k = xs := List.take_of_length_le (by rw [HX.out.1]; omega)
          rw [hkl]
          generalize wsum xs = W at *
          go_wp2_with fail
          refine (C2.out _).mono ?_
          rintro e w2 ⟨rfl, hb⟩
          have hB_w2 : Below w.heap.size w w2 := (by repeat (first | exact Below.refl _ _ | assumption | refine Below.setCell ?_ (by first | (simp; done) | (simp; omega) | omega) _ | refine Below.drew ?_ | refine below_drewN ?_ _ | refine Below.alloc ?_ (by first | (simp; done) | (simp; omega) | omega) _ | refine below_alloc ?_ _ | refine below_step ?_ (by assumption))); have hz_w2 := hB_w2.size; have hsw20 : w.heap.size < w2.heap.size := Nat.lt_of_lt_of_le (by first | (simp; done) | (simp; omega) | omega) hb.size; have hnw20 : ¬ w.heap.size = w2.heap.size := (by omega); have hmw20 : ¬ w2.heap.size = w.heap.size := (by omega); have hlw20_0 : w.heap.size ≤ w2.heap.size := (by omega); have hlw20_1 : w.heap.size ≤ w2.heap.size + 1 := (by omega); have hlw20_2 : w.heap.size ≤ w2.heap.size + 1 + 1 := (by omega); have hkw20 : w2.cell? ⟨w.heap.size, 0, none⟩ = some (.int .i64 span) := (by rw [hb.cell (p := ⟨w.heap.size, 0, none⟩) (by first | (simp; done) | (simp; omega) | omega)]; first | (go_simp; done) | assumption); have hkw21 : w2.cell? ⟨w.heap.size, 1, none⟩ = some (.slice A len cap) := (by rw [hb.cell (p := ⟨w.heap.size, 1, none⟩) (by first | (simp; done) | (simp; omega) | omega)]; first | (go_simp; done) | assumption); have hsw22 : w1.heap.size < w2.heap.size := Nat.lt_of_lt_of_le (by first | (simp; done) | (simp; omega) | omega) hb.size; have hnw22 : ¬ w1.heap.size = w2.heap.size := (by omega); have hmw22 : ¬ w2.heap.size = w1.heap.size := (by omega); have hlw22_0 : w1.heap.size ≤ w2.heap.size := (by omega); have hlw22_1 : w1.heap.size ≤ w2.heap.size + 1 := (by omega); have hlw22_2 : w1.heap.size ≤ w2.heap.size + 1 + 1 := (by omega); have hkw22 : w2.cell? ⟨w1.heap.size, 0, none⟩ = some (.int .i64 N1) := (by rw [hb.cell (p := ⟨w1.heap.size, 0, none⟩) (by first | (simp; done) | (simp; omega) | omega)]; first | (go_simp; done) | assumption); have hkw23 : w2.cell? ⟨w1.heap.size, 1, none⟩ = some (.int .i64 D1) := (by rw [hb.cell (p := ⟨w1.heap.size, 1, none⟩) (by first | (simp; done) | (simp; omega) | omega)]; first | (go_simp; done) | assumption); have hsw24 : w1.heap.size + 1 < w2.heap.size := Nat.lt_of_lt_of_le (by first | (simp; done) | (simp; omega) | omega) hb.size; have hnw24 : ¬ w1.heap.size + 1 = w2.heap.size := (by omega); have hmw24 : ¬ w2.heap.size = w1.heap.size + 1 := (by omega); have hlw24_0 : w1.heap.size + 1 ≤ w2.heap.size := (by omega); have hlw24_1 : w1.heap.size + 1 ≤ w2.heap.size + 1 := (by omega); have hlw24_2 : w1.heap.size + 1 ≤ w2.heap.size + 1 + 1 := (by omega); have hkw24 : w2.cell? ⟨w1.heap.size + 1, 0, none⟩ = some (.int .i64 N2) := (by rw [hb.cell (p := ⟨w1.heap.size + 1, 0, none⟩) (by first | (simp; done) | (simp; omega) | omega)]; first | (go_simp; done) | assumption); have hkw25 : w2.cell? ⟨w1.heap.size + 1, 1, none⟩ = some (.int .i64 D2) := (by rw [hb.cell (p := ⟨w1.heap.size + 1, 1, none⟩) (by first | (simp; done) | (simp; omega) | omega)]; first | (go_simp; done) | assumption); clear hb hB_w1 hlw10_0 hlw10_1 hlw10_2 hkw10 hkw11
          have hsw : w.heap.size ≤ w1.heap.size := hz_w1
          by_cases t1 : i < 0
          · go_wp2_with (go_at_call 26; refine (awake_any _).mono ?_; rintro e w6 ⟨rfl, hb6⟩)
            go_ret
            exact ⟨rfl, (by repeat (first | exact Below.refl _ _ | assumption | refine Below.setCell ?_ (by first | (simp; done) | (simp; omega) | omega) _ | refine Below.drew ?_ | refine below_drewN ?_ _ | refine Below.alloc ?_ (by first | (simp; done) | (simp; omega) | omega) _ | refine below_alloc ?_ _ | refine below_step ?_ (by assumption)))⟩
          · by_cases t2 : (len : Int) ≤ i
            · go_wp2_with (go_at_call 26; refine (awake_any _).mono ?_; rintro e w6 ⟨rfl, hb6⟩)
              go_ret
              exact ⟨rfl, (by repeat (first | exact Below.refl _ _ | assumption | refine Below.setCell ?_ (by first | (simp; done) | (simp; omega) | omega) _ | refine Below.drew ?_ | refine below_drewN ?_ _ | refine Below.alloc ?_ (by first | (simp; done) | (simp; omega) | omega) _ | refine below_alloc ?_ _ | refine below_step ?_ (by assumption)))⟩
            · obtain ⟨I, rfl⟩ : ∃ I : Nat, i = I := ⟨i.toNat, by omega⟩
              have hI : I < len := by omega
              obtain ⟨b, off, rfl, hb0, hc1, hc2⟩ := (HX.out.below hB_w2).at_ I hI
              have hlen : I < xs.length := by rw [HX.out.1]; exact hI
              have hb1 : b < w1.heap.size := by omega
              have hb2 : b < w1.heap.size + 1 := by omega
              have hM2 := Lib.hid (fun h0 h1 => hM.out I hlen to h0 h1 _ rfl)
              have hG2 := Lib.hid (hG.out I hlen to)
              have hPS := Lib.hid (fun (W : World) (B g : Nat) (h : Pairs W B (some ⟨g, 0, none⟩) len xs) => pairs_set_fst h I hI to)
              generalize hys : xs.set I (to, (xs[I]?.getD (0,0)).2) = ys at *
              have hyl : ys.length = len := by rw [← hys, List.length_set]; exact HX.out.1
              clear hys hM hG
              generalize xs[I]?.getD (0,0) = X at *
              obtain ⟨X, Y⟩ := X
              dsimp only at hc1 hc2 hM2 hG2
              by_cases t3 : to < X
              · go_wp2_with (go_at_call 26; refine (awake_any _).mono ?_; rintro e w6 ⟨rfl, hb6⟩)
                go_ret
                exact ⟨rfl, (by repeat (first | exact Below.refl _ _ | assumption | refine Below.setCell ?_ (by first | (simp; done) | (simp; omega) | omega) _ | refine Below.drew ?_ | refine below_drewN ?_ _ | refine Below.alloc ?_ (by first | (simp; done) | (simp; omega) | omega) _ | refine below_alloc ?_ _ | refine below_step ?_ (by assumption)))⟩
              · by_cases t4 : span < to
                · go_wp2_with (go_at_call 26; refine (awake_any _).mono ?_; rintro e w6 ⟨rfl, hb6⟩)
                  go_ret
                  exact ⟨rfl, (by repeat (first | exact Below.refl _ _ | assumption | refine Below.setCell ?_ (by first | (simp; done) | (simp; omega) | omega) _ | refine Below.drew ?_ | refine below_drewN ?_ _ | refine Below.alloc ?_ (by first | (simp; done) | (simp; omega) | omega) _ | refine below_alloc ?_ _ | refine below_step ?_ (by assumption)))⟩
                · obtain ⟨m1, m2⟩ := hM2.out (by omega) (by omega)
                  have hgy := hG2.out (by omega) (by omega)
                  have c4 := fun A' cap' W (h : Pairs W W.heap.size A' len ys) => Shares_any span A' len cap' ys W (by omega) h
                  have hE : goodE span ys = 0 := if_pos hgy
                  rw [hE] at c4
                  obtain ⟨⟨a1', a2'⟩, ⟨b1', b2'⟩, ⟨n1', n2'⟩, ⟨m1', m2'⟩, _, _, _⟩ := levers_sum hgy
                  generalize shareN1 span ys = N3 at *
                  generalize shareD1 span ys = D3 at *
                  generalize shareN2 span ys = N4 at *
                  generalize shareD2 span ys = D4 at *
                  have c5 := fun W => Compare_any N4 D4 N2 D2 W (by omega) (by omega) (by omega) (by omega) (by omega) (by omega) (by omega) (by omega)
                  have c6 := fun W => Compare_any N3 D3 N1 D1 W (by omega) (by omega) (by omega) (by omega) (by omega) (by omega) (by omega) (by omega)
                  generalize cmpR N4 D4 N2 D2 = r5 at *
                  generalize cmpR N3 D3 N1 D1 = r6 at *
                  have C4 := Lib.hid c4
                  have C5 := Lib.hid c5
                  have C6 := Lib.hid c6
                  clear c4 c5 c6 hE hgy hM2 hG2
                  have hnx : ¬ len ≤ I := by omega
                  obtain ⟨i0, hi, hz0, hz1, hz2⟩ := info_parts info_load
                  have hI0 := Lib.hid hi
                  have hI1 := Lib.hid hz0
                  have hI2 := Lib.hid hz1
                  have hI3 := Lib.hid hz2
                  clear hi hz0 hz1 hz2
                  go_wp2_with (at_builtin; go_loud (refine wpList_append_src rfl (.tmp 112) (.tmp 114) 40 rfl w2.heap.size 48 i0 (.agg #[.int .i64 0, .int .i64 0]) 2 16 Try.underlying40 hI0.out hI1.out hI2.out hI3.out rfl (by decide) (.slice (some ⟨w2.heap.size, 0, none⟩) 0 0) 0 [] rfl (World.ownsRow_made w2 #[] 0 (Nat.le_refl _) (by decide) rfl) (by simp) _ len cap (pcells xs) rfl (by rw [pcells_len, HX.out.1]) (by simp) (HX.out.below (B := w.heap.size) (w' := w2.alloc _) (by repeat (first | exact Below.refl _ _ | assumption | refine Below.setCell ?_ (by first | (simp; done) | (simp; omega) | omega) _ | refine Below.drew ?_ | refine below_drewN ?_ _ | refine Below.alloc ?_ (by first | (simp; done) | (simp; omega) | omega) _ | refine below_alloc ?_ _ | refine below_step ?_ (by assumption)))).cells (pcells_one xs) (by unfold maxLen; omega) (by omega) (by simp) ?_))
                  intro v' w3 hown hgr hne
                  try simp only [Nat.zero_add, List.nil_append] at hown
                  have hb : Below w2.heap.size w2 w3 := ((Below.refl _ _).alloc (Nat.le_refl _) _).trans (grown_below hgr (by simp) (by intro k hk; simp [Value.ownBlock] at hk; omega))
                  obtain ⟨A', cap', rfl, hnc, hmx, hP', hfr⟩ := own_pairs hown
                  obtain ⟨g, rfl, hgb, hgl, hfz⟩ := hfr (by omega)
                  obtain ⟨b', off', he, hbl, hgc1, hgc2⟩ := hP'.at_ I hI
                  cases he
                  rw [Nat.zero_add] at hgc1
                  have hgf := hfz (I * 2) (by omega)
                  have hPY := Lib.hid (hPS.out w3 _ g hP')
                  have hB_w3 : Below w.heap.size w w3 := (by repeat (first | exact Below.refl _ _ | assumption | refine Below.setCell ?_ (by first | (simp; done) | (simp; omega) | omega) _ | refine Below.drew ?_ | refine below_drewN ?_ _ | refine Below.alloc ?_ (by first | (simp; done) | (simp; omega) | omega) _ | refine below_alloc ?_ _ | refine below_step ?_ (by assumption))); have hz_w3 := hB_w3.size; have hsw30 : w.heap.size < w3.heap.size := Nat.lt_of_lt_of_le (by first | (simp; done) | (simp; omega) | omega) hb.size; have hnw30 : ¬ w.heap.size = w3.heap.size := (by omega); have hmw30 : ¬ w3.heap.size = w.heap.size := (by omega); have hlw30_0 : w.heap.size ≤ w3.heap.size := (by omega); have hlw30_1 : w.heap.size ≤ w3.heap.size + 1 := (by omega); have hlw30_2 : w.heap.size ≤ w3.heap.size + 1 + 1 := (by omega); have hkw30 : w3.cell? ⟨w.heap.size, 0, none⟩ = some (.int .i64 span) := (by rw [hb.cell (p := ⟨w.heap.size, 0, none⟩) (by first | (simp; done) | (simp; omega) | omega)]; first | (go_simp; done) | assumption); have hkw31 : w3.cell? ⟨w.heap.size, 1, none⟩ = some (.slice (some ⟨b, off, none⟩) len cap) := (by rw [hb.cell (p := ⟨w.heap.size, 1, none⟩) (by first | (simp; done) | (simp; omega) | omega)]; first | (go_simp; done) | assumption); have hsw32 : w1.heap.size < w3.heap.size := Nat.lt_of_lt_of_le (by first | (simp; done) | (simp; omega) | omega) hb.size; have hnw32 : ¬ w1.heap.size = w3.heap.size := (by omega); have hmw32 : ¬ w3.heap.size = w1.heap.size := (by omega); have hlw32_0 : w1.heap.size ≤ w3.heap.size := (by omega); have hlw32_1 : w1.heap.size ≤ w3.heap.size + 1 := (by omega); have hlw32_2 : w1.heap.size ≤ w3.heap.size + 1 + 1 := (by omega); have hkw32 : w3.cell? ⟨w1.heap.size, 0, none⟩ = some (.int .i64 N1) := (by rw [hb.cell (p := ⟨w1.heap.size, 0, none⟩) (by first | (simp; done) | (simp; omega) | omega)]; first | (go_simp; done) | assumption); have hkw33 : w3.cell? ⟨w1.heap.size, 1, none⟩ = some (.int .i64 D1) := (by rw [hb.cell (p := ⟨w1.heap.size, 1, none⟩) (by first | (simp; done) | (simp; omega) | omega)]; first | (go_simp; done) | assumption); have hsw34 : w1.heap.size + 1 < w3.heap.size := Nat.lt_of_lt_of_le (by first | (simp; done) | (simp; omega) | omega) hb.size; have hnw34 : ¬ w1.heap.size + 1 = w3.heap.size := (by omega); have hmw34 : ¬ w3.heap.size = w1.heap.size + 1 := (by omega); have hlw34_0 : w1.heap.size + 1 ≤ w3.heap.size := (by omega); have hlw34_1 : w1.heap.size + 1 ≤ w3.heap.size + 1 := (by omega); have hlw34_2 : w1.heap.size + 1 ≤ w3.heap.size + 1 + 1 := (by omega); have hkw34 : w3.cell? ⟨w1.heap.size + 1, 0, none⟩ = some (.int .i64 N2) := (by rw [hb.cell (p := ⟨w1.heap.size + 1, 0, none⟩) (by first | (simp; done) | (simp; omega) | omega)]; first | (go_simp; done) | assumption); have hkw35 : w3.cell? ⟨w1.heap.size + 1, 1, none⟩ = some (.int .i64 D2) := (by rw [hb.cell (p := ⟨w1.heap.size + 1, 1, none⟩) (by first | (simp; done) | (simp; omega) | omega)]; first | (go_simp; done) | assumption); clear hb hB_w2 hlw20_0 hlw20_1 hlw20_2 hkw20 hkw21 hlw22_0 hlw22_1 hlw22_2 hkw22 hkw23 hlw24_0 hlw24_1 hlw24_2 hkw24 hkw25
                  have hg1 : ¬ g = w.heap.size := by omega
                  have hg2 : ¬ g = w1.heap.size := by omega
                  have hg3 : ¬ g = w1.heap.size + 1 := by omega
                  have hg4 : w.heap.size ≤ g := by omega
                  clear hown hgr hne hP' hfr hfz hPS hgc2
                  go_wp2_with fail
                  refine (C4.out _ cap' _ (hPY.out.more (by simp))).mono ?_
                  rintro e w4 ⟨rfl, hb⟩
                  have hB_w4 : Below w.heap.size w w4 := (by repeat (first | exact Below.refl _ _ | assumption | refine Below.setCell ?_ (by first | (simp; done) | (simp; omega) | omega) _ | refine Below.drew ?_ | refine below_drewN ?_ _ | refine Below.alloc ?_ (by first | (simp; done) | (simp; omega) | omega) _ | refine below_alloc ?_ _ | refine below_step ?_ (by assumption))); have hz_w4 := hB_w4.size; have hsw40 : w.heap.size < w4.heap.size := Nat.lt_of_lt_of_le (by first | (simp; done) | (simp; omega) | omega) hb.size; have hnw40 : ¬ w.heap.size = w4.heap.size := (by omega); have hmw40 : ¬ w4.heap.size = w.heap.size := (by omega); have hlw40_0 : w.heap.size ≤ w4.heap.size := (by omega); have hlw40_1 : w.heap.size ≤ w4.heap.size + 1 := (by omega); have hlw40_2 : w.heap.size ≤ w4.heap.size + 1 + 1 := (by omega); have hkw40 : w4.cell? ⟨w.heap.size, 0, none⟩ = some (.int .i64 span) := (by rw [hb.cell (p := ⟨w.heap.size, 0, none⟩) (by first | (simp; done) | (simp; omega) | omega)]; first | (go_simp; done) | assumption); have hkw41 : w4.cell? ⟨w.heap.size, 1, none⟩ = some (.slice (some ⟨b, off, none⟩) len cap) := (by rw [hb.cell (p := ⟨w.heap.size, 1, none⟩) (by first | (simp; done) | (simp; omega) | omega)]; first | (go_simp; done) | assumption); have hsw42 : w1.heap.size < w4.heap.size := Nat.lt_of_lt_of_le (by first | (simp; done) | (simp; omega) | omega) hb.size; have hnw42 : ¬ w1.heap.size = w4.heap.size := (by omega); have hmw42 : ¬ w4.heap.size = w1.heap.size := (by omega); have hlw42_0 : w1.heap.size ≤ w4.heap.size := (by omega); have hlw42_1 : w1.heap.size ≤ w4.heap.size + 1 := (by omega); have hlw42_2 : w1.heap.size ≤ w4.heap.size + 1 + 1 := (by omega); have hkw42 : w4.cell? ⟨w1.heap.size, 0, none⟩ = some (.int .i64 N1) := (by rw [hb.cell (p := ⟨w1.heap.size, 0, none⟩) (by first | (simp; done) | (simp; omega) | omega)]; first | (go_simp; done) | assumption); have hkw43 : w4.cell? ⟨w1.heap.size, 1, none⟩ = some (.int .i64 D1) := (by rw [hb.cell (p := ⟨w1.heap.size, 1, none⟩) (by first | (simp; done) | (simp; omega) | omega)]; first | (go_simp; done) | assumption); have hsw44 : w1.heap.size + 1 < w4.heap.size := Nat.lt_of_lt_of_le (by first | (simp; done) | (simp; omega) | omega) hb.size; have hnw44 : ¬ w1.heap.size + 1 = w4.heap.size := (by omega); have hmw44 : ¬ w4.heap.size = w1.heap.size + 1 := (by omega); have hlw44_0 : w1.heap.size + 1 ≤ w4.heap.size := (by omega); have hlw44_1 : w1.heap.size + 1 ≤ w4.heap.size + 1 := (by omega); have hlw44_2 : w1.heap.size + 1 ≤ w4.heap.size + 1 + 1 := (by omega); have hkw44 : w4.cell? ⟨w1.heap.size + 1, 0, none⟩ = some (.int .i64 N2) := (by rw [hb.cell (p := ⟨w1.heap.size + 1, 0, none⟩) (by first | (simp; done) | (simp; omega) | omega)]; first | (go_simp; done) | assumption); have hkw45 : w4.cell? ⟨w1.heap.size + 1, 1, none⟩ = some (.int .i64 D2) := (by rw [hb.cell (p := ⟨w1.heap.size + 1, 1, none⟩) (by first | (simp; done) | (simp; omega) | omega)]; first | (go_simp; done) | assumption); clear hb hB_w3 hlw30_0 hlw30_1 hlw30_2 hkw30 hkw31 hlw32_0 hlw32_1 hlw32_2 hkw32 hkw33 hlw34_0 hlw34_1 hlw34_2 hkw34 hkw35
                  go_wp2_with fail
                  refine (C5.out _).mono ?_
                  rintro e w5 ⟨rfl, hb⟩
                  have hB_w5 : Below w.heap.size w w5 := (by repeat (first | exact Below.refl _ _ | assumption | refine Below.setCell ?_ (by first | (simp; done) | (simp; omega) | omega) _ | refine Below.drew ?_ | refine below_drewN ?_ _ | refine Below.alloc ?_ (by first | (simp; done) | (simp; omega) | omega) _ | refine below_alloc ?_ _ | refine below_step ?_ (by assumption))); have hz_w5 := hB_w5.size; have hsw50 : w1.heap.size < w5.heap.size := Nat.lt_of_lt_of_le (by first | (simp; done) | (simp; omega) | omega) hb.size; have hnw50 : ¬ w1.heap.size = w5.heap.size := (by omega); have hmw50 : ¬ w5.heap.size = w1.heap.size := (by omega); have hlw50_0 : w1.heap.size ≤ w5.heap.size := (by omega); have hlw50_1 : w1.heap.size ≤ w5.heap.size + 1 := (by omega); have hlw50_2 : w1.heap.size ≤ w5.heap.size + 1 + 1 := (by omega); have hkw50 : w5.cell? ⟨w1.heap.size, 0, none⟩ = some (.int .i64 N1) := (by rw [hb.cell (p := ⟨w1.heap.size, 0, none⟩) (by first | (simp; done) | (simp; omega) | omega)]; first | (go_simp; done) | assumption); have hkw51 : w5.cell? ⟨w1.heap.size, 1, none⟩ = some (.int .i64 D1) := (by rw [hb.cell (p := ⟨w1.heap.size, 1, none⟩) (by first | (simp; done) | (simp; omega) | omega)]; first | (go_simp; done) | assumption); have hsw52 : w4.heap.size < w5.heap.size := Nat.lt_of_lt_of_le (by first | (simp; done) | (simp; omega) | omega) hb.size; have hnw52 : ¬ w4.heap.size = w5.heap.size := (by omega); have hmw52 : ¬ w5.heap.size = w4.heap.size := (by omega); have hlw52_0 : w4.heap.size ≤ w5.heap.size := (by omega); have hlw52_1 : w4.heap.size ≤ w5.heap.size + 1 := (by omega); have hlw52_2 : w4.heap.size ≤ w5.heap.size + 1 + 1 := (by omega); have hkw52 : w5.cell? ⟨w4.heap.size, 0, none⟩ = some (.int .i64 N3) := (by rw [hb.cell (p := ⟨w4.heap.size, 0, none⟩) (by first | (simp; done) | (simp; omega) | omega)]; first | (go_simp; done) | assumption); have hkw53 : w5.cell? ⟨w4.heap.size, 1, none⟩ = some (.int .i64 D3) := (by rw [hb.cell (p := ⟨w4.heap.size, 1, none⟩) (by first | (simp; done) | (simp; omega) | omega)]; first | (go_simp; done) | assumption); clear hb hB_w4 hlw40_0 hlw40_1 hlw40_2 hkw40 hkw41 hlw42_0 hlw42_1 hlw42_2 hkw42 hkw43 hlw44_0 hlw44_1 hlw44_2 hkw44 hkw45
                  go_wp2_with fail
                  refine (C6.out _).mono ?_
                  rintro e w6 ⟨rfl, hb⟩
                  have hB_w6 : Below w.heap.size w w6 := (by repeat (first | exact Below.refl _ _ | assumption | refine Below.setCell ?_ (by first | (simp; done) | (simp; omega) | omega) _ | refine Below.drew ?_ | refine below_drewN ?_ _ | refine Below.alloc ?_ (by first | (simp; done) | (simp; omega) | omega) _ | refine below_alloc ?_ _ | refine below_step ?_ (by assumption))); have hz_w6 := hB_w6.size; clear hb hB_w5 hlw50_0 hlw50_1 hlw50_2 hkw50 hkw51 hlw52_0 hlw52_1 hlw52_2 hkw52 hkw53
                  go_wp2_with (go_at_call 26; refine (awake_any _).mono ?_; rintro e w7 ⟨rfl, hb6⟩)
                  go_ret
                  exact ⟨rfl, (by repeat (first | exact Below.refl _ _ | assumption | refine Below.setCell ?_ (by first | (simp; done) | (simp; omega) | omega) _ | refine Below.drew ?_ | refine below_drewN ?_ _ | refine Below.alloc ?_ (by first | (simp; done) | (simp; omega) | omega) _ | refine below_alloc ?_ _ | refine below_step ?_ (by assumption)))⟩
    · have hE : goodE span xs = 1 := if_neg hg
      rw [hE] at c1
      generalize shareN1 span xs = N1 at *
      generalize shareD1 span xs = D1 at *
      generalize shareN2 span xs = N2 at *
      generalize shareD2 span xs = D2 at *
      have C1 := Lib.hid c1
      clear c1 hx
      go_enter Try.func7, Try.ntmps7
      go_wp2_with fail
      refine (C1.out _ (by repeat (first | exact Below.refl _ _ | assumption | refine Below.setCell ?_ (by first | (simp; done) | (simp; omega) | omega) _ | refine Below.drew ?_ | refine below_drewN ?_ _ | refine Below.alloc ?_ (by first | (simp; done) | (simp; omega) | omega) _ | refine below_alloc ?_ _ | refine below_step ?_ (by assumption)))).mono ?_
      rintro e w1 ⟨rfl, hb⟩
      have hB_w1 : Below w.heap.size w w1 := (by repeat (first | exact Below.refl _ _ | assumption | refine Below.setCell ?_ (by first | (simp; done) | (simp; omega) | omega) _ | refine Below.drew ?_ | refine below_drewN ?_ _ | refine Below.alloc ?_ (by first | (simp; done) | (simp; omega) | omega) _ | refine below_alloc ?_ _ | refine below_step ?_ (by assumption))); have hz_w1 := hB_w1.size; clear hb
      go_wp2_with (go_at_call 26; refine (awake_any _).mono ?_; rintro e w6 ⟨rfl, hb6⟩)
      go_ret
      exact ⟨rfl, (by repeat (first | exact Below.refl _ _ | assumption | refine Below.setCell ?_ (by first | (simp; done) | (simp; omega) | omega) _ | refine Below.drew ?_ | refine below_drewN ?_ _ | refine Below.alloc ?_ (by first | (simp; done) | (simp; omega) | omega) _ | refine below_alloc ?_ _ | refine below_step ?_ (by assumption)))⟩
end Go.Proofs.Ythninhkimhnegaa
