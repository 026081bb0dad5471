/- Ropes side by side: the reference's Weakest. -/
import Derived.Test.YthninhkimhnegaaWeakB
set_option linter.unusedSimpArgs false
set_option linter.unusedVariables false
namespace Go.Proofs.Ythninhkimhnegaa
open Go.RowKit
attribute [local go_sem] Later.cell

set_option maxRecDepth 20000 in
set_option maxHeartbeats 4000000 in
theorem rWeakest_any (A : Option Addr) (n cap : Nat) (rs : List (Int × Int × Int)) (A' : Option Addr) (m cap' : Nat) (us : List RowU) (day : Int) (w : World) (hm : n ≤ cap ∧ cap ≤ 9223372036854775807) (hx : Rows 3 int3 (0,0,0) w w.heap.size A n rs)
    (hm' : m ≤ cap' ∧ cap' ≤ 9223372036854775807) (hy : Rows 1 sliceU dU w w.heap.size A' m us) (hu : ∀ x ∈ us, (x.1.2.1 ≤ x.1.2.2 ∧ x.1.2.2 ≤ 9223372036854775807) ∧ Pairs w w.heap.size x.1.1 x.1.2.1 x.2) :
    Calls Try.prog 38 #[.slice A n cap, .slice A' m cap', .int .i64 day] w fun e w' => e = .returned (.tuple #[.int .i64 (weakV rs us day), .int .i64 (weakE rs us day)]) ∧ Below w.heap.size w w' := by
  have hE : weakE rs us day = if withinB rs.length 1 20 && us.length == rs.length then (if okW rs us then (if withinB day 0 100000 then 0 else 7) else 1) else 9 := rfl
  have hV : weakV rs us day = if weakE rs us day = 0 then ((argm (weakF rs us day) rs.length : Nat) : Int) else 0 := rfl
  rw [hx.1, hy.1] at hE
  rw [hx.1] at hV
  by_cases h1 : withinB n 1 20 = true
  · by_cases h2 : m = n
    · subst h2
      rw [h1, beq_self_eq_true, Bool.true_and, if_pos rfl] at hE
      have hn := withinB_iff.1 h1
      have hca : ∀ k, k < m → ∀ W, Below w.heap.size w W → Calls Try.prog 42 #[.agg #[.int .i64 (rs[k]?.getD (0,0,0)).1, .int .i64 (rs[k]?.getD (0,0,0)).2.1, .int .i64 (rs[k]?.getD (0,0,0)).2.2]] W fun e w' => e = .returned (.bool (goodR (rs[k]?.getD (0,0,0)).1 (rs[k]?.getD (0,0,0)).2.1 (rs[k]?.getD (0,0,0)).2.2)) ∧ Below W.heap.size W w' :=
        fun k hk W h => rValidRope_any _ _ _ W
      have hcb : ∀ k, k < m → ∀ W, Below w.heap.size w W → Calls Try.prog 44 #[.slice (us[k]?.getD dU).1.1 (us[k]?.getD dU).1.2.1 (us[k]?.getD dU).1.2.2] W fun e w' => e = .returned (.bool (goodU (us[k]?.getD dU).2)) ∧ Below W.heap.size W w' :=
        fun k hk W h => rValidUses_any _ _ _ _ W (by have := (hu _ (hy.mem hk)).1; omega) (((hu _ (hy.mem hk)).2.below h).more h.size)
      by_cases ho : okW rs us = true
      · rw [if_pos ho] at hE
        have hall := okW_iff.1 ho
        rw [hx.1] at hall
        have hga : ∀ k, k < m → goodR (rs[k]?.getD (0,0,0)).1 (rs[k]?.getD (0,0,0)).2.1 (rs[k]?.getD (0,0,0)).2.2 = true ∧ goodU (us[k]?.getD dU).2 = true := fun k hk => wAsk_spec (hall k hk)
        by_cases hd : withinB day 0 100000 = true
        · rw [if_pos hd] at hE
          rw [if_pos hE] at hV
          rw [hE, hV]
          have hdd := withinB_iff.1 hd
          have hcs : ∀ k, k < m → ∀ W, Below w.heap.size w W → Calls Try.prog 77 #[.agg #[.int .i64 (rs[k]?.getD (0,0,0)).1, .int .i64 (rs[k]?.getD (0,0,0)).2.1, .int .i64 (rs[k]?.getD (0,0,0)).2.2], .slice (us[k]?.getD dU).1.1 (us[k]?.getD dU).1.2.1 (us[k]?.getD dU).1.2.2, .int .i64 day] W fun e w' => e = .returned (.int .i64 (leftR (rs[k]?.getD (0,0,0)).1 (rs[k]?.getD (0,0,0)).2.1 (us[k]?.getD dU).2 day)) ∧ Below W.heap.size W w' :=
            fun k hk W h => rleft_any _ _ _ _ _ _ _ day W (hu _ (hy.mem hk)).1 (((hu _ (hy.mem hk)).2.below h).more h.size) (hga k hk).1 (hga k hk).2 hdd.1 hdd.2
          have hbd : ∀ k, k < m → _ := fun k hk => leftR_bd' (goodR_spec (hga k hk).1).1.1 (goodR_spec (hga k hk).1).2.1.1 (hga k hk).2 hdd.1
          have hrb : ∀ k, k < m → _ := fun k hk => goodR_spec (hga k hk).1
          have hF : ∀ k, weakF rs us day k = max 0 (if leftR (rs[k]?.getD (0,0,0)).1 (rs[k]?.getD (0,0,0)).2.1 (us[k]?.getD dU).2 day < (rs[k]?.getD (0,0,0)).2.2 then -1 else (rs[k]?.getD (0,0,0)).1 * leftR (rs[k]?.getD (0,0,0)).1 (rs[k]?.getD (0,0,0)).2.1 (us[k]?.getD dU).2 day / 5000) := fun k => rfl
          have HX := Lib.hid hx
          have HY := Lib.hid hy
          have HA := Lib.hid hca
          have HC := Lib.hid hcb
          have HS := Lib.hid hcs
          have HG := Lib.hid hga
          have HB := Lib.hid hbd
          have HR := Lib.hid hrb
          have HF := Lib.hid hF
          generalize weakF rs us day = f at *
          clear hx hy hca hcb hcs hall hbd hF hE hV hu ho hga hrb
          go_enter Try.func38, Try.ntmps38
          go_wp2_with (go_at_call 64; refine (rwithin_any _ _ _ _).mono ?_; rintro e w' ⟨rfl, rfl⟩)
          go_loopw [8] (fun i wr => ∃ k : Nat, k ≤ m ∧ i = .int .i64 k ∧ Below w.heap.size w wr) (fun i _ => m - (intOf i).toNat)
          case atStart => exact ⟨0, Nat.zero_le _, rfl, Below.refl _ _⟩
          case round =>
            obtain ⟨k, hk, rfl, hb⟩ := hrel
            have hb' := hb
            have hB_wr : Below w.heap.size w wr := (by repeat (first | exact Below.refl _ _ | assumption | refine Below.setCell ?_ (by first | (simp; done) | (simp; omega) | omega) _ | refine Below.drew ?_ | refine below_drewN ?_ _ | refine Below.alloc ?_ (by first | (simp; done) | (simp; omega) | omega) _ | refine below_alloc ?_ _ | refine below_step ?_ (by assumption))); have hz_wr := hB_wr.size; clear hb
            by_cases hlt : k < m
            · obtain ⟨b, off, rfl, hb0, hc1, hc2, hc3⟩ := (HX.out.below hB_wr).at3 k hlt
              obtain ⟨d, doff, rfl, hd0, hd1⟩ := (HY.out.below hB_wr).atU k hlt
              have c1 := fun W (h : Below w.heap.size w W) => HA.out k hlt W h
              have c2 := fun W (h : Below w.heap.size w W) => HC.out k hlt W h
              rw [(HG.out k hlt).1] at c1
              rw [(HG.out k hlt).2] at c2
              generalize rs[k]?.getD (0,0,0) = r at *
              generalize us[k]?.getD dU = u at *
              obtain ⟨r1, r2, r3⟩ := r
              obtain ⟨⟨u1, u2, u3⟩, u4⟩ := u
              dsimp only at hc1 hc2 hc3 hd1 c1 c2
              have hb1 : b < wr.heap.size := by omega
              have hd2 : d < wr.heap.size := by omega
              have C1 := Lib.hid c1
              have C2 := Lib.hid c2
              clear c1 c2
              go_wp2_with fail
              refine (C1.out _ (by repeat (first | exact Below.refl _ _ | assumption | refine Below.setCell ?_ (by first | (simp; done) | (simp; omega) | omega) _ | refine Below.drew ?_ | refine below_drewN ?_ _ | refine Below.alloc ?_ (by first | (simp; done) | (simp; omega) | omega) _ | refine below_alloc ?_ _ | refine below_step ?_ (by assumption)))).mono ?_
              rintro e w3 ⟨rfl, hb⟩
              have hB3 : Below w.heap.size w w3 := (by repeat (first | exact Below.refl _ _ | assumption | refine Below.setCell ?_ (by first | (simp; done) | (simp; omega) | omega) _ | refine Below.drew ?_ | refine below_drewN ?_ _ | refine Below.alloc ?_ (by first | (simp; done) | (simp; omega) | omega) _ | refine below_alloc ?_ _ | refine below_step ?_ (by assumption)))
              have hd3 : w3.cell? ⟨d, doff + k, none⟩ = some (.slice u1 u2 u3) := (hb.cell (p := ⟨d, doff + k, none⟩) hd2).trans hd1
              clear hb
              go_wp2_with fail
              refine (C2.out _ hB3).mono ?_
              rintro e w4 ⟨rfl, hb⟩
              have hb4 : Below w.heap.size w w4 := hB3.trans (hb.mono hB3.size)
              go_wp2
              go_roundw
              case rel => exact ⟨k + 1, by omega, by go_num, hb4⟩
              case measure => simp [intOf]; omega
            · go_wp2_with (go_at_call 64; refine (rwithin_any _ _ _ _).mono ?_; rintro e w' ⟨rfl, rfl⟩)
              obtain ⟨wo, hwo⟩ : ∃ wo : World, wo = wr := ⟨_, rfl⟩
              subst hwo
              go_loopw [9, 10, 11] (fun x y i wr => ∃ (B L : Int) (k : Nat), k ≤ m ∧ x = .int .i64 B ∧ y = .int .i64 L ∧ i = .int .i64 k ∧ Hid (WeakAt f 0 k B L) ∧ Below w.heap.size w wr) (fun _ _ i _ => m - (intOf i).toNat)
              case atStart => exact ⟨0, 0, 0, Nat.zero_le _, rfl, rfl, rfl, Lib.hid (.inl ⟨rfl, rfl, rfl⟩), hB_wr⟩
              case round =>
                obtain ⟨B, L, k, hk, rfl, rfl, rfl, hinv, hb⟩ := hrel
                have hb' := hb
                have hB_wr : Below w.heap.size w wr := (by repeat (first | exact Below.refl _ _ | assumption | refine Below.setCell ?_ (by first | (simp; done) | (simp; omega) | omega) _ | refine Below.drew ?_ | refine below_drewN ?_ _ | refine Below.alloc ?_ (by first | (simp; done) | (simp; omega) | omega) _ | refine below_alloc ?_ _ | refine below_step ?_ (by assumption))); have hz_wr := hB_wr.size; clear hb
                by_cases hlt : k < m
                · obtain ⟨b, off, rfl, hb0, hc1, hc2, hc3⟩ := (HX.out.below hB_wr).at3 k hlt
                  obtain ⟨d, doff, rfl, hd0, hd1⟩ := (HY.out.below hB_wr).atU k hlt
                  have c1 := fun W (h : Below w.heap.size w W) => HS.out k hlt W h
                  have hbk := HB.out k hlt
                  have hrk := HR.out k hlt
                  have hfk := HF.out k
                  generalize rs[k]?.getD (0,0,0) = r at *
                  generalize us[k]?.getD dU = u at *
                  obtain ⟨r1, r2, r3⟩ := r
                  obtain ⟨⟨u1, u2, u3⟩, u4⟩ := u
                  dsimp only at hc1 hc2 hc3 hd1 c1 hbk hfk hrk
                  generalize leftR r1 r2 u4 day = S at *
                  have hp1 : 0 ≤ r1 * S := Int.mul_nonneg (by omega) hbk.1
                  have hp2 : r1 * S ≤ 1000000 * 1000 := Int.mul_le_mul hrk.1.2 hbk.2 hbk.1 (by decide)
                  have hb1 : b < wr.heap.size := by omega
                  have hd2 : d < wr.heap.size := by omega
                  have C1 := Lib.hid c1
                  obtain ⟨F, hF⟩ : ∃ F, F = f k := ⟨_, rfl⟩
                  rw [← hF] at hfk
                  have hq : (S < r3 ∧ F = 0) ∨ (¬ S < r3 ∧ F = r1 * S / 5000) := by
                    by_cases h : S < r3
                    · rw [if_pos h] at hfk; exact .inl ⟨h, by omega⟩
                    · rw [if_neg h] at hfk; exact .inr ⟨h, by omega⟩
                  have HFK := Lib.hid hF
                  clear c1 hfk hF
                  by_cases hk0 : k = 0
                  · have HN : Hid (WeakAt f 0 (k + 1) k F) := Lib.hid (by have := hinv.out.low (.inl hk0); rw [HFK.out]; exact this)
                    have hke : ((k : Int) == 0) = true := by simpa using hk0
                    clear hk0
                    rcases hq with ⟨q1, rfl⟩ | ⟨q1, rfl⟩
                    all_goals
                      go_wp2
                      (refine wp_region_later (by kernel_rfl) (by kernel_rfl) ?_; (repeat (go_big_quiet_step ((go_at_call 77; exact later_call (C1.out _ (hB_wr.trans ((‹Later wr›).h.mono hz_wr))))))); refine wpQuiet_nil ?_)
                      intro w4 hb
                      have hb4 := hb'.trans (hb.mono hb'.size)
                      obtain ⟨hcb1, _⟩ := bcell hb
                      go_wp2
                      go_roundw
                      case rel => exact ⟨k, _, k + 1, by omega, rfl, rfl, by go_num, HN, hb4⟩
                      case measure => simp [intOf]; omega
                  · have hke : ((k : Int) == 0) = false := by simpa using hk0
                    by_cases hlow : F < L
                    · have HN : Hid (WeakAt f 0 (k + 1) k F) := Lib.hid (by have := hinv.out.low (.inr (by rw [← HFK.out]; exact hlow)); rw [HFK.out]; exact this)
                      clear hk0
                      rcases hq with ⟨q1, rfl⟩ | ⟨q1, rfl⟩
                      all_goals
                        go_wp2
                        (refine wp_region_later (by kernel_rfl) (by kernel_rfl) ?_; (repeat (go_big_quiet_step ((go_at_call 77; exact later_call (C1.out _ (hB_wr.trans ((‹Later wr›).h.mono hz_wr))))))); refine wpQuiet_nil ?_)
                        intro w4 hb
                        have hb4 := hb'.trans (hb.mono hb'.size)
                        obtain ⟨hcb1, _⟩ := bcell hb
                        go_wp2
                        go_roundw
                        case rel => exact ⟨k, _, k + 1, by omega, rfl, rfl, by go_num, HN, hb4⟩
                        case measure => simp [intOf]; omega
                    · have HN : Hid (WeakAt f 0 (k + 1) B L) := Lib.hid (hinv.out.stay (by omega) (by rw [← HFK.out]; exact hlow))
                      clear hk0
                      rcases hq with ⟨q1, rfl⟩ | ⟨q1, rfl⟩
                      all_goals
                        go_wp2
                        (refine wp_region_later (by kernel_rfl) (by kernel_rfl) ?_; (repeat (go_big_quiet_step ((go_at_call 77; exact later_call (C1.out _ (hB_wr.trans ((‹Later wr›).h.mono hz_wr))))))); refine wpQuiet_nil ?_)
                        intro w4 hb
                        have hb4 := hb'.trans (hb.mono hb'.size)
                        obtain ⟨hcb1, _⟩ := bcell hb
                        go_wp2
                        go_roundw
                        case rel => exact ⟨B, L, k + 1, by omega, rfl, rfl, by go_num, HN, hb4⟩
                        case measure => simp [intOf]; omega
                · have hfin : B = (argm f m : Nat) := by
                    rcases hinv.out with h | h
                    · omega
                    · rw [show m = k by omega]; exact h.2.1
                  subst hfin
                  go_wp2
                  go_ret2
                  exact ⟨rfl, hB_wr⟩
        · rw [if_neg hd] at hE
          rw [hE] at hV
          rw [if_neg (by decide)] at hV
          rw [hE, hV]
          have hd' : withinB day 0 100000 = false := by simpa using hd
          have HX := Lib.hid hx
          have HY := Lib.hid hy
          have HA := Lib.hid hca
          have HC := Lib.hid hcb
          have HG := Lib.hid hga
          clear hx hy hca hcb hga hall hE hV hu ho hd
          go_enter Try.func38, Try.ntmps38
          go_wp2_with (go_at_call 64; refine (rwithin_any _ _ _ _).mono ?_; rintro e w' ⟨rfl, rfl⟩)
          go_loopw [8] (fun i wr => ∃ k : Nat, k ≤ m ∧ i = .int .i64 k ∧ Below w.heap.size w wr) (fun i _ => m - (intOf i).toNat)
          case atStart => exact ⟨0, Nat.zero_le _, rfl, Below.refl _ _⟩
          case round =>
            obtain ⟨k, hk, rfl, hb⟩ := hrel
            have hb' := hb
            have hB_wr : Below w.heap.size w wr := (by repeat (first | exact Below.refl _ _ | assumption | refine Below.setCell ?_ (by first | (simp; done) | (simp; omega) | omega) _ | refine Below.drew ?_ | refine below_drewN ?_ _ | refine Below.alloc ?_ (by first | (simp; done) | (simp; omega) | omega) _ | refine below_alloc ?_ _ | refine below_step ?_ (by assumption))); have hz_wr := hB_wr.size; clear hb
            by_cases hlt : k < m
            · obtain ⟨b, off, rfl, hb0, hc1, hc2, hc3⟩ := (HX.out.below hB_wr).at3 k hlt
              obtain ⟨d, doff, rfl, hd0, hd1⟩ := (HY.out.below hB_wr).atU k hlt
              have c1 := fun W (h : Below w.heap.size w W) => HA.out k hlt W h
              have c2 := fun W (h : Below w.heap.size w W) => HC.out k hlt W h
              rw [(HG.out k hlt).1] at c1
              rw [(HG.out k hlt).2] at c2
              generalize rs[k]?.getD (0,0,0) = r at *
              generalize us[k]?.getD dU = u at *
              obtain ⟨r1, r2, r3⟩ := r
              obtain ⟨⟨u1, u2, u3⟩, u4⟩ := u
              dsimp only at hc1 hc2 hc3 hd1 c1 c2
              have hb1 : b < wr.heap.size := by omega
              have hd2 : d < wr.heap.size := by omega
              have C1 := Lib.hid c1
              have C2 := Lib.hid c2
              clear c1 c2
              go_wp2_with fail
              refine (C1.out _ (by repeat (first | exact Below.refl _ _ | assumption | refine Below.setCell ?_ (by first | (simp; done) | (simp; omega) | omega) _ | refine Below.drew ?_ | refine below_drewN ?_ _ | refine Below.alloc ?_ (by first | (simp; done) | (simp; omega) | omega) _ | refine below_alloc ?_ _ | refine below_step ?_ (by assumption)))).mono ?_
              rintro e w3 ⟨rfl, hb⟩
              have hB3 : Below w.heap.size w w3 := (by repeat (first | exact Below.refl _ _ | assumption | refine Below.setCell ?_ (by first | (simp; done) | (simp; omega) | omega) _ | refine Below.drew ?_ | refine below_drewN ?_ _ | refine Below.alloc ?_ (by first | (simp; done) | (simp; omega) | omega) _ | refine below_alloc ?_ _ | refine below_step ?_ (by assumption)))
              have hd3 : w3.cell? ⟨d, doff + k, none⟩ = some (.slice u1 u2 u3) := (hb.cell (p := ⟨d, doff + k, none⟩) hd2).trans hd1
              clear hb
              go_wp2_with fail
              refine (C2.out _ hB3).mono ?_
              rintro e w4 ⟨rfl, hb⟩
              have hb4 : Below w.heap.size w w4 := hB3.trans (hb.mono hB3.size)
              go_wp2
              go_roundw
              case rel => exact ⟨k + 1, by omega, by go_num, hb4⟩
              case measure => simp [intOf]; omega
            · go_wp2_with (go_at_call 64; refine (rwithin_any _ _ _ _).mono ?_; rintro e w' ⟨rfl, rfl⟩)
              go_ret2
              exact ⟨rfl, hB_wr⟩
      · rw [if_neg ho] at hE
        rw [hE] at hV
        rw [if_neg (by decide)] at hV
        rw [hE, hV]
        have hno : ¬ ∀ k, k < m → (goodR (rs[k]?.getD (0,0,0)).1 (rs[k]?.getD (0,0,0)).2.1 (rs[k]?.getD (0,0,0)).2.2 = true ∧ goodU (us[k]?.getD dU).2 = true) := fun h => ho (okW_iff.2 (by
          rw [hx.1]
          intro k hk
          unfold wAsk askR
          rw [(h k hk).1, (h k hk).2]
          rfl))
        have HX := Lib.hid hx
        have HY := Lib.hid hy
        have HA := Lib.hid hca
        have HC := Lib.hid hcb
        have HO := Lib.hid hno
        clear hx hy hca hcb hE hV hu ho hno
        go_enter Try.func38, Try.ntmps38
        go_wp2_with (go_at_call 64; refine (rwithin_any _ _ _ _).mono ?_; rintro e w' ⟨rfl, rfl⟩)
        go_loopw [8] (fun i wr => ∃ k : Nat, k ≤ m ∧ i = .int .i64 k ∧ Hid (∀ q, q < k → (goodR (rs[q]?.getD (0,0,0)).1 (rs[q]?.getD (0,0,0)).2.1 (rs[q]?.getD (0,0,0)).2.2 = true ∧ goodU (us[q]?.getD dU).2 = true)) ∧ Below w.heap.size w wr) (fun i _ => m - (intOf i).toNat)
        case atStart => exact ⟨0, Nat.zero_le _, rfl, Lib.hid (fun q hq => absurd hq (by omega)), Below.refl _ _⟩
        case round =>
          obtain ⟨k, hk, rfl, hinv, hb⟩ := hrel
          have hb' := hb
          have hB_wr : Below w.heap.size w wr := (by repeat (first | exact Below.refl _ _ | assumption | refine Below.setCell ?_ (by first | (simp; done) | (simp; omega) | omega) _ | refine Below.drew ?_ | refine below_drewN ?_ _ | refine Below.alloc ?_ (by first | (simp; done) | (simp; omega) | omega) _ | refine below_alloc ?_ _ | refine below_step ?_ (by assumption))); have hz_wr := hB_wr.size; clear hb
          by_cases hlt : k < m
          · obtain ⟨b, off, rfl, hb0, hc1, hc2, hc3⟩ := (HX.out.below hB_wr).at3 k hlt
            obtain ⟨d, doff, rfl, hd0, hd1⟩ := (HY.out.below hB_wr).atU k hlt
            have c1 := fun W (h : Below w.heap.size w W) => HA.out k hlt W h
            have c2 := fun W (h : Below w.heap.size w W) => HC.out k hlt W h
            have hnx : goodR (rs[k]?.getD (0,0,0)).1 (rs[k]?.getD (0,0,0)).2.1 (rs[k]?.getD (0,0,0)).2.2 = true → goodU (us[k]?.getD dU).2 = true → Hid (∀ q, q < k + 1 → (goodR (rs[q]?.getD (0,0,0)).1 (rs[q]?.getD (0,0,0)).2.1 (rs[q]?.getD (0,0,0)).2.2 = true ∧ goodU (us[q]?.getD dU).2 = true)) := fun h0 h1 => Lib.hid fun q hq => by
              by_cases hqk : q = k
              · subst hqk; exact ⟨h0, h1⟩
              · exact hinv.out q (by omega)
            have HNX := Lib.hid hnx
            clear hnx hinv
            generalize goodR (rs[k]?.getD (0,0,0)).1 (rs[k]?.getD (0,0,0)).2.1 (rs[k]?.getD (0,0,0)).2.2 = G1 at *
            generalize goodU (us[k]?.getD dU).2 = G2 at *
            generalize rs[k]?.getD (0,0,0) = r at *
            generalize us[k]?.getD dU = u at *
            obtain ⟨r1, r2, r3⟩ := r
            obtain ⟨⟨u1, u2, u3⟩, u4⟩ := u
            dsimp only at hc1 hc2 hc3 hd1 c1 c2
            have hb1 : b < wr.heap.size := by omega
            have hd2 : d < wr.heap.size := by omega
            have C1 := Lib.hid c1
            have C2 := Lib.hid c2
            clear c1 c2
            cases G1
            · go_wp2_with fail
              refine (C1.out _ (by repeat (first | exact Below.refl _ _ | assumption | refine Below.setCell ?_ (by first | (simp; done) | (simp; omega) | omega) _ | refine Below.drew ?_ | refine below_drewN ?_ _ | refine Below.alloc ?_ (by first | (simp; done) | (simp; omega) | omega) _ | refine below_alloc ?_ _ | refine below_step ?_ (by assumption)))).mono ?_
              rintro e w3 ⟨rfl, hb⟩
              have hB3 : Below w.heap.size w w3 := (by repeat (first | exact Below.refl _ _ | assumption | refine Below.setCell ?_ (by first | (simp; done) | (simp; omega) | omega) _ | refine Below.drew ?_ | refine below_drewN ?_ _ | refine Below.alloc ?_ (by first | (simp; done) | (simp; omega) | omega) _ | refine below_alloc ?_ _ | refine below_step ?_ (by assumption)))
              clear hb
              go_wp2
              go_ret2
              exact ⟨rfl, hB3⟩
            · go_wp2_with fail
              refine (C1.out _ (by repeat (first | exact Below.refl _ _ | assumption | refine Below.setCell ?_ (by first | (simp; done) | (simp; omega) | omega) _ | refine Below.drew ?_ | refine below_drewN ?_ _ | refine Below.alloc ?_ (by first | (simp; done) | (simp; omega) | omega) _ | refine below_alloc ?_ _ | refine below_step ?_ (by assumption)))).mono ?_
              rintro e w3 ⟨rfl, hb⟩
              have hB3 : Below w.heap.size w w3 := (by repeat (first | exact Below.refl _ _ | assumption | refine Below.setCell ?_ (by first | (simp; done) | (simp; omega) | omega) _ | refine Below.drew ?_ | refine below_drewN ?_ _ | refine Below.alloc ?_ (by first | (simp; done) | (simp; omega) | omega) _ | refine below_alloc ?_ _ | refine below_step ?_ (by assumption)))
              have hd3 : w3.cell? ⟨d, doff + k, none⟩ = some (.slice u1 u2 u3) := (hb.cell (p := ⟨d, doff + k, none⟩) hd2).trans hd1
              clear hb
              go_wp2_with fail
              refine (C2.out _ hB3).mono ?_
              rintro e w4 ⟨rfl, hb⟩
              have hb4 : Below w.heap.size w w4 := hB3.trans (hb.mono hB3.size)
              clear hb
              cases G2
              · go_wp2
                go_ret2
                exact ⟨rfl, hb4⟩
              · go_wp2
                go_roundw
                case rel => exact ⟨k + 1, by omega, by go_num, HNX.out (by simp) (by simp), hb4⟩
                case measure => simp [intOf]; omega
          · exact absurd (fun q hq => hinv.out q (by omega)) HO.out
    · rw [show (m == n) = false by simpa using h2, Bool.and_false, if_neg (by decide)] at hE
      rw [hE] at hV
      rw [if_neg (by decide)] at hV
      rw [hE, hV]
      have h3 : ((m : Int) == (n : Int)) = false := by simp; omega
      have h4 : ((m : Int) != (n : Int)) = true := by simp; omega
      clear hx hy hu hE hV h2
      go_enter Try.func38, Try.ntmps38
      go_wp2_with (go_at_call 64; refine (rwithin_any _ _ _ _).mono ?_; rintro e w' ⟨rfl, rfl⟩)
      go_ret2
      exact ⟨rfl, Below.refl _ _⟩
  · have h1' : withinB n 1 20 = false := by simpa using h1
    rw [h1', Bool.false_and, if_neg (by decide)] at hE
    rw [hE] at hV
    rw [if_neg (by decide)] at hV
    rw [hE, hV]
    clear hx hy hu hE hV h1
    go_enter Try.func38, Try.ntmps38
    go_wp2_with (go_at_call 64; refine (rwithin_any _ _ _ _).mono ?_; rintro e w' ⟨rfl, rfl⟩)
    go_ret2
    exact ⟨rfl, Below.refl _ _⟩
end Go.Proofs.Ythninhkimhnegaa
