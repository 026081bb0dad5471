/- RopeStands: the walk of the statement. -/
import Derived.Test.YthninhkimhnegaaStandsM
import Derived.Test.YthninhkimhnegaaAwake4
import Derived.OwnWalk
import Derived.Deep.DeepCutAuto
set_option linter.unusedSimpArgs false
set_option linter.unusedVariables false
namespace Go.Proofs.Ythninhkimhnegaa
open Go.RowKit
attribute [local go_sem] Later.cell

set_option maxRecDepth 100000 in
set_option maxHeartbeats 8000000 in
theorem stands_walk (span : Int) (A : Option Addr) (len cap : Nat) (xs : List (Int × Int)) (wt lim at_ : Int) (w : World) (_ : -9223372036854775808 ≤ span ∧ span ≤ 9223372036854775807) (hm : len ≤ cap ∧ cap ≤ 9223372036854775807) (hx : Pairs w w.heap.size A len xs)
    (_ : ∀ p ∈ xs, (-9223372036854775808 ≤ p.1 ∧ p.1 ≤ 9223372036854775807) ∧ -9223372036854775808 ≤ p.2 ∧ p.2 ≤ 9223372036854775807) (_ : -9223372036854775808 ≤ wt ∧ wt ≤ 9223372036854775807) (_ : -9223372036854775808 ≤ lim ∧ lim ≤ 9223372036854775807) (_ : -9223372036854775808 ≤ at_ ∧ at_ ≤ 9223372036854775807) :
    Calls Try.prog 11 #[.agg #[.int .i64 span, .slice A len cap], .agg #[.int .i64 wt, .int .i64 lim, .int .i64 at_]] w fun e w' => e = .returned (.bool true) ∧ Below w.heap.size w w' := by
  by_cases hlen : 19 < len
  · clear hx
    go_enter Try.func11, Try.ntmps11
    go_wp2_with (go_at_call 26; refine (awake_any _).mono ?_; rintro e w1 ⟨rfl, hb1⟩)
    go_ret
    exact ⟨rfl, (by repeat (first | exact Below.refl _ _ | assumption | refine Below.setCell ?_ (by first | (simp; done) | (simp; omega) | omega) _ | refine Below.drew ?_ | refine below_drewN ?_ _ | refine Below.alloc ?_ (by first | (simp; done) | (simp; omega) | omega) _ | refine below_alloc ?_ _ | refine below_step ?_ (by assumption)))⟩
  · have c1 := fun W (h : Below w.heap.size w W) => Walk_any span A len cap xs wt lim W hm ((hx.below h).more h.size)
    by_cases hE : walkE span xs wt lim = 0 ∨ walkE span xs wt lim = 8
    · have c3 := fun A' cap' W (h : Pairs W W.heap.size A' (len + 1) (xs ++ [(at_, wt)])) => Shares_any span A' (len + 1) cap' (xs ++ [(at_, wt)]) W (by omega) h
      have hst := fun h => stands (a := at_) hE h
      have hlb := (walk_bits hE).2.2.1
      have hbd : goodE span (xs ++ [(at_, wt)]) = 0 → goodL span (xs ++ [(at_, wt)]) = true := fun h => by
        unfold goodE at h
        by_cases hh : goodL span (xs ++ [(at_, wt)]) = true
        · exact hh
        · rw [if_neg hh] at h; omega
      have hbs := fun h => levers_sum (hbd h)
      have c4 := fun (h : goodE span (xs ++ [(at_, wt)]) = 0) W => Compare_any (shareN1 span (xs ++ [(at_, wt)])) (shareD1 span (xs ++ [(at_, wt)])) lim 1 W (by have := hbs h; omega) (by have := hbs h; omega) (by have := hbs h; omega) (by have := hbs h; omega) (by omega) (by omega) (by omega) (by omega)
      have c5 := fun (h : goodE span (xs ++ [(at_, wt)]) = 0) W => Compare_any (shareN2 span (xs ++ [(at_, wt)])) (shareD2 span (xs ++ [(at_, wt)])) lim 1 W (by have := hbs h; omega) (by have := hbs h; omega) (by have := hbs h; omega) (by have := hbs h; omega) (by omega) (by omega) (by omega) (by omega)
      have hpc : Hid (pcells (xs ++ [(at_, wt)]) = pcells xs ++ [.int .i64 at_, .int .i64 wt]) := by show _ = _; rw [pcells_app]; rfl
      clear hbd hbs
      generalize walkL span xs wt lim = L at *
      generalize walkH span xs wt lim = H at *
      generalize walkE span xs wt lim = E at *
      generalize xs ++ [(at_, wt)] = ys at *
      generalize shareN1 span ys = N1 at *
      generalize shareD1 span ys = D1 at *
      generalize shareN2 span ys = N2 at *
      generalize shareD2 span ys = D2 at *
      generalize goodE span ys = F at *
      generalize cmpR N1 D1 lim 1 = r1 at *
      generalize cmpR N2 D2 lim 1 = r2 at *
      have C1 := Lib.hid c1
      have C3 := Lib.hid c3
      have C4 := Lib.hid c4
      have C5 := Lib.hid c5
      have HS := Lib.hid hst
      have HX := Lib.hid hx
      obtain ⟨i0, hi, hz0, hz1, hz2⟩ := info_parts info_load'
      have hI0 := Lib.hid hi
      have hI1 := Lib.hid hz0
      have hI2 := Lib.hid hz1
      have hI3 := Lib.hid hz2
      clear hi hz0 hz1 hz2 c1 c3 c4 c5 hst hx
      rcases hE with rfl | rfl
      · go_enter Try.func11, Try.ntmps11
        go_wp2
        (refine wp_region_later (by kernel_rfl) (by kernel_rfl) ?_; (repeat (go_big_quiet_step ((fail)))); refine wpQuiet_nil ?_)
        intro w1 hb
        have hB_w1 : Below w.heap.size w w1 := (by repeat (first | exact Below.refl _ _ | assumption | refine Below.setCell ?_ (by first | (simp; done) | (simp; omega) | omega) _ | refine Below.drew ?_ | refine below_drewN ?_ _ | refine Below.alloc ?_ (by first | (simp; done) | (simp; omega) | omega) _ | refine below_alloc ?_ _ | refine below_step ?_ (by assumption))); have hz_w1 := hB_w1.size; have hsw10 : w.heap.size < w1.heap.size := Nat.lt_of_lt_of_le (by first | (simp; done) | (simp; omega) | omega) hb.size; have hnw10 : ¬ w.heap.size = w1.heap.size := (by omega); have hmw10 : ¬ w1.heap.size = w.heap.size := (by omega); have hlw10_0 : w.heap.size ≤ w1.heap.size := (by omega); have hlw10_1 : w.heap.size ≤ w1.heap.size + 1 := (by omega); have hlw10_2 : w.heap.size ≤ w1.heap.size + 1 + 1 := (by omega); have hkw10 : w1.cell? ⟨w.heap.size, 0, none⟩ = some (.int .i64 span) := (by rw [hb.cell (p := ⟨w.heap.size, 0, none⟩) (by first | (simp; done) | (simp; omega) | omega)]; first | (go_simp; done) | assumption); have hkw11 : w1.cell? ⟨w.heap.size, 1, none⟩ = some (.slice A len cap) := (by rw [hb.cell (p := ⟨w.heap.size, 1, none⟩) (by first | (simp; done) | (simp; omega) | omega)]; first | (go_simp; done) | assumption); have hsw12 : w.heap.size + 1 < w1.heap.size := Nat.lt_of_lt_of_le (by first | (simp; done) | (simp; omega) | omega) hb.size; have hnw12 : ¬ w.heap.size + 1 = w1.heap.size := (by omega); have hmw12 : ¬ w1.heap.size = w.heap.size + 1 := (by omega); have hlw12_0 : w.heap.size + 1 ≤ w1.heap.size := (by omega); have hlw12_1 : w.heap.size + 1 ≤ w1.heap.size + 1 := (by omega); have hlw12_2 : w.heap.size + 1 ≤ w1.heap.size + 1 + 1 := (by omega); have hkw12 : w1.cell? ⟨w.heap.size + 1, 0, none⟩ = some (.int .i64 wt) := (by rw [hb.cell (p := ⟨w.heap.size + 1, 0, none⟩) (by first | (simp; done) | (simp; omega) | omega)]; first | (go_simp; done) | assumption); have hkw13 : w1.cell? ⟨w.heap.size + 1, 1, none⟩ = some (.int .i64 lim) := (by rw [hb.cell (p := ⟨w.heap.size + 1, 1, none⟩) (by first | (simp; done) | (simp; omega) | omega)]; first | (go_simp; done) | assumption); have hkw14 : w1.cell? ⟨w.heap.size + 1, 2, none⟩ = some (.int .i64 at_) := (by rw [hb.cell (p := ⟨w.heap.size + 1, 2, none⟩) (by first | (simp; done) | (simp; omega) | omega)]; first | (go_simp; done) | assumption); clear hb
        go_wp2_with fail
        refine (C1.out _ (by repeat (first | exact Below.refl _ _ | assumption | refine Below.setCell ?_ (by first | (simp; done) | (simp; omega) | omega) _ | refine Below.drew ?_ | refine below_drewN ?_ _ | refine Below.alloc ?_ (by first | (simp; done) | (simp; omega) | omega) _ | refine below_alloc ?_ _ | refine below_step ?_ (by assumption)))).mono ?_
        rintro e w2 ⟨rfl, hb⟩
        have hB_w2 : Below w.heap.size w w2 := (by repeat (first | exact Below.refl _ _ | assumption | refine Below.setCell ?_ (by first | (simp; done) | (simp; omega) | omega) _ | refine Below.drew ?_ | refine below_drewN ?_ _ | refine Below.alloc ?_ (by first | (simp; done) | (simp; omega) | omega) _ | refine below_alloc ?_ _ | refine below_step ?_ (by assumption))); have hz_w2 := hB_w2.size; have hsw20 : w.heap.size < w2.heap.size := Nat.lt_of_lt_of_le (by first | (simp; done) | (simp; omega) | omega) hb.size; have hnw20 : ¬ w.heap.size = w2.heap.size := (by omega); have hmw20 : ¬ w2.heap.size = w.heap.size := (by omega); have hlw20_0 : w.heap.size ≤ w2.heap.size := (by omega); have hlw20_1 : w.heap.size ≤ w2.heap.size + 1 := (by omega); have hlw20_2 : w.heap.size ≤ w2.heap.size + 1 + 1 := (by omega); have hkw20 : w2.cell? ⟨w.heap.size, 0, none⟩ = some (.int .i64 span) := (by rw [hb.cell (p := ⟨w.heap.size, 0, none⟩) (by first | (simp; done) | (simp; omega) | omega)]; first | (go_simp; done) | assumption); have hkw21 : w2.cell? ⟨w.heap.size, 1, none⟩ = some (.slice A len cap) := (by rw [hb.cell (p := ⟨w.heap.size, 1, none⟩) (by first | (simp; done) | (simp; omega) | omega)]; first | (go_simp; done) | assumption); clear hb hB_w1 hlw10_0 hlw10_1 hlw10_2 hkw10 hkw11 hlw12_0 hlw12_1 hlw12_2 hkw12 hkw13 hkw14
        go_wp2_with (at_builtin; go_loud (refine wpList_append_src rfl (.tmp 46) (.tmp 48) 40 rfl w2.heap.size 48 i0 (.agg #[.int .i64 0, .int .i64 0]) 2 16 Try.underlying40 hI0.out hI1.out hI2.out hI3.out rfl (by decide) (.slice (some ⟨w2.heap.size, 0, none⟩) 0 0) 0 [] rfl (World.ownsRow_made w2 #[] 0 (Nat.le_refl _) (by decide) rfl) (by simp) _ len cap (pcells xs) rfl (by rw [pcells_len, HX.out.1]) (by intro hA; have := HX.out.2; rcases Nat.eq_zero_or_pos len with h | h; exact h; obtain ⟨b, off, hb, _⟩ := this h; rw [hA] at hb; cases hb) (HX.out.below (B := w.heap.size) (w' := w2.alloc _) (by repeat (first | exact Below.refl _ _ | assumption | refine Below.setCell ?_ (by first | (simp; done) | (simp; omega) | omega) _ | refine Below.drew ?_ | refine below_drewN ?_ _ | refine Below.alloc ?_ (by first | (simp; done) | (simp; omega) | omega) _ | refine below_alloc ?_ _ | refine below_step ?_ (by assumption)))).cells (pcells_one xs) (by unfold maxLen; omega) (by omega) (by simp) ?_))
        intro v1 w4 hown1 hgr1 _
        have hb4 : Below w2.heap.size w2 w4 := ((Below.refl _ _).alloc (Nat.le_refl _) _).trans (grown_below hgr1 (by simp) (by intro k hk; simp [Value.ownBlock] at hk; omega))
        have hz4 := hb4.size
        have HO1 := Lib.hid hown1
        clear hown1 hgr1
        go_wp2_with (at_builtin; go_loud (refine wpList_append_own _ rfl (.tmp 49) (.tmp 53) 40 rfl w2.heap.size 48 i0 (.agg #[.int .i64 0, .int .i64 0]) 2 16 Try.underlying40 hI0.out hI1.out hI2.out hI3.out rfl (by decide) v1 len (pcells xs) rfl (by simpa using HO1.out.alloc _) ⟨w4.heap.size, 0, none⟩ 1 1 [.int .i64 at_, .int .i64 wt] rfl rfl (news2w _ _ _ _) (one2w _ _) (by unfold maxLen; omega) (by omega) (by simp; omega) ?_))
        intro v2 w5 hown2 hgr2 _
        have hb : Below w2.heap.size w2 w5 := hb4.trans ((Below.alloc (Below.refl _ _) hz4 _).trans (grown_below hgr2 (by simp; omega) (fun q hq => (HO1.out.lt q hq).1)))
        have hown3 : w5.ownsRow w2.heap.size 48 2 v2 (len + 1) (pcells ys) := by
          rw [hpc.out]
          simpa [pcells] using hown2
        clear hown2 hgr2
        obtain ⟨A', cap', rfl, hnc, hmx, hP', _⟩ := own_pairs hown3
        have HP := Lib.hid hP'
        clear hP' hown3
        unfold maxLen at hmx
        have hB_w5 : Below w.heap.size w w5 := (by repeat (first | exact Below.refl _ _ | assumption | refine Below.setCell ?_ (by first | (simp; done) | (simp; omega) | omega) _ | refine Below.drew ?_ | refine below_drewN ?_ _ | refine Below.alloc ?_ (by first | (simp; done) | (simp; omega) | omega) _ | refine below_alloc ?_ _ | refine below_step ?_ (by assumption))); have hz_w5 := hB_w5.size; have hsw50 : w.heap.size < w5.heap.size := Nat.lt_of_lt_of_le (by first | (simp; done) | (simp; omega) | omega) hb.size; have hnw50 : ¬ w.heap.size = w5.heap.size := (by omega); have hmw50 : ¬ w5.heap.size = w.heap.size := (by omega); have hlw50_0 : w.heap.size ≤ w5.heap.size := (by omega); have hlw50_1 : w.heap.size ≤ w5.heap.size + 1 := (by omega); have hlw50_2 : w.heap.size ≤ w5.heap.size + 1 + 1 := (by omega); have hkw50 : w5.cell? ⟨w.heap.size, 0, none⟩ = some (.int .i64 span) := (by rw [hb.cell (p := ⟨w.heap.size, 0, none⟩) (by first | (simp; done) | (simp; omega) | omega)]; first | (go_simp; done) | assumption); have hkw51 : w5.cell? ⟨w.heap.size, 1, none⟩ = some (.slice A len cap) := (by rw [hb.cell (p := ⟨w.heap.size, 1, none⟩) (by first | (simp; done) | (simp; omega) | omega)]; first | (go_simp; done) | assumption); clear hb hB_w2 hlw20_0 hlw20_1 hlw20_2 hkw20 hkw21
        clear hb4 hz4 HO1
        go_wp2_with fail
        refine (C3.out A' cap' _ HP.out).mono ?_
        rintro e w6 ⟨rfl, hb⟩
        have hB_w6 : Below w.heap.size w w6 := (by repeat (first | exact Below.refl _ _ | assumption | refine Below.setCell ?_ (by first | (simp; done) | (simp; omega) | omega) _ | refine Below.drew ?_ | refine below_drewN ?_ _ | refine Below.alloc ?_ (by first | (simp; done) | (simp; omega) | omega) _ | refine below_alloc ?_ _ | refine below_step ?_ (by assumption))); have hz_w6 := hB_w6.size; clear hb hB_w5 hlw50_0 hlw50_1 hlw50_2 hkw50 hkw51
        by_cases hF : F = 0
        · have C6 := Lib.hid (C4.out hF)
          have C7 := Lib.hid (C5.out hF)
          have hs := HS.out hF
          subst hF
          clear C4 C5 HS
          simp only [true_and, show ((8:Int) = 0) = False from by decide, false_and, iff_false] at hs
          go_wp2_with fail
          refine (C6.out _).mono ?_
          rintro e w7 ⟨rfl, hb⟩
          have hB_w7 : Below w.heap.size w w7 := (by repeat (first | exact Below.refl _ _ | assumption | refine Below.setCell ?_ (by first | (simp; done) | (simp; omega) | omega) _ | refine Below.drew ?_ | refine below_drewN ?_ _ | refine Below.alloc ?_ (by first | (simp; done) | (simp; omega) | omega) _ | refine below_alloc ?_ _ | refine below_step ?_ (by assumption))); have hz_w7 := hB_w7.size; have hsw70 : w6.heap.size + 1 < w7.heap.size := Nat.lt_of_lt_of_le (by first | (simp; done) | (simp; omega) | omega) hb.size; have hnw70 : ¬ w6.heap.size + 1 = w7.heap.size := (by omega); have hmw70 : ¬ w7.heap.size = w6.heap.size + 1 := (by omega); have hlw70_0 : w6.heap.size + 1 ≤ w7.heap.size := (by omega); have hlw70_1 : w6.heap.size + 1 ≤ w7.heap.size + 1 := (by omega); have hlw70_2 : w6.heap.size + 1 ≤ w7.heap.size + 1 + 1 := (by omega); have hkw70 : w7.cell? ⟨w6.heap.size + 1, 0, none⟩ = some (.int .i64 N2) := (by rw [hb.cell (p := ⟨w6.heap.size + 1, 0, none⟩) (by first | (simp; done) | (simp; omega) | omega)]; first | (go_simp; done) | assumption); have hkw71 : w7.cell? ⟨w6.heap.size + 1, 1, none⟩ = some (.int .i64 D2) := (by rw [hb.cell (p := ⟨w6.heap.size + 1, 1, none⟩) (by first | (simp; done) | (simp; omega) | omega)]; first | (go_simp; done) | assumption); have hsw72 : w6.heap.size + 2 < w7.heap.size := Nat.lt_of_lt_of_le (by first | (simp; done) | (simp; omega) | omega) hb.size; have hnw72 : ¬ w6.heap.size + 2 = w7.heap.size := (by omega); have hmw72 : ¬ w7.heap.size = w6.heap.size + 2 := (by omega); have hlw72_0 : w6.heap.size + 2 ≤ w7.heap.size := (by omega); have hlw72_1 : w6.heap.size + 2 ≤ w7.heap.size + 1 := (by omega); have hlw72_2 : w6.heap.size + 2 ≤ w7.heap.size + 1 + 1 := (by omega); have hkw72 : w7.cell? ⟨w6.heap.size + 2, 0, none⟩ = some (.int .i64 lim) := (by rw [hb.cell (p := ⟨w6.heap.size + 2, 0, none⟩) (by first | (simp; done) | (simp; omega) | omega)]; first | (go_simp; done) | assumption); have hkw73 : w7.cell? ⟨w6.heap.size + 2, 1, none⟩ = some (.int .i64 1) := (by rw [hb.cell (p := ⟨w6.heap.size + 2, 1, none⟩) (by first | (simp; done) | (simp; omega) | omega)]; first | (go_simp; done) | assumption); clear hb hB_w6
          by_cases k1 : r1 ≤ 0
          · go_wp2_with fail
            refine (C7.out _).mono ?_
            rintro e w8 ⟨rfl, hb⟩
            have hB_w8 : Below w.heap.size w w8 := (by repeat (first | exact Below.refl _ _ | assumption | refine Below.setCell ?_ (by first | (simp; done) | (simp; omega) | omega) _ | refine Below.drew ?_ | refine below_drewN ?_ _ | refine Below.alloc ?_ (by first | (simp; done) | (simp; omega) | omega) _ | refine below_alloc ?_ _ | refine below_step ?_ (by assumption))); have hz_w8 := hB_w8.size; clear hb hB_w7 hlw70_0 hlw70_1 hlw70_2 hkw70 hkw71 hlw72_0 hlw72_1 hlw72_2 hkw72 hkw73
            by_cases k2 : r2 ≤ 0
            · by_cases k3 : L ≤ at_
              · by_cases k4 : at_ ≤ H
                · first | (exfalso; omega) | (clear hs; go_wp2_with (go_at_call 26; refine (awake_any _).mono ?_; rintro e w10 ⟨rfl, hb6⟩); go_ret; exact ⟨rfl, (by repeat (first | exact Below.refl _ _ | assumption | refine Below.setCell ?_ (by first | (simp; done) | (simp; omega) | omega) _ | refine Below.drew ?_ | refine below_drewN ?_ _ | refine Below.alloc ?_ (by first | (simp; done) | (simp; omega) | omega) _ | refine below_alloc ?_ _ | refine below_step ?_ (by assumption)))⟩)
                · first | (exfalso; omega) | (clear hs; have n_k4 : decide (at_ ≤ H) = false := decide_eq_false k4; go_wp2_with (go_at_call 26; refine (awake_any _).mono ?_; rintro e w10 ⟨rfl, hb6⟩); go_ret; exact ⟨rfl, (by repeat (first | exact Below.refl _ _ | assumption | refine Below.setCell ?_ (by first | (simp; done) | (simp; omega) | omega) _ | refine Below.drew ?_ | refine below_drewN ?_ _ | refine Below.alloc ?_ (by first | (simp; done) | (simp; omega) | omega) _ | refine below_alloc ?_ _ | refine below_step ?_ (by assumption)))⟩)
              · first | (exfalso; omega) | (clear hs; have n_k3 : decide (L ≤ at_) = false := decide_eq_false k3; go_wp2_with (go_at_call 26; refine (awake_any _).mono ?_; rintro e w10 ⟨rfl, hb6⟩); go_ret; exact ⟨rfl, (by repeat (first | exact Below.refl _ _ | assumption | refine Below.setCell ?_ (by first | (simp; done) | (simp; omega) | omega) _ | refine Below.drew ?_ | refine below_drewN ?_ _ | refine Below.alloc ?_ (by first | (simp; done) | (simp; omega) | omega) _ | refine below_alloc ?_ _ | refine below_step ?_ (by assumption)))⟩)
            · by_cases k3 : L ≤ at_
              · by_cases k4 : at_ ≤ H
                · first | (exfalso; omega) | (clear hs; have n_k2 : decide (r2 ≤ 0) = false := decide_eq_false k2; go_wp2_with (go_at_call 26; refine (awake_any _).mono ?_; rintro e w10 ⟨rfl, hb6⟩); go_ret; exact ⟨rfl, (by repeat (first | exact Below.refl _ _ | assumption | refine Below.setCell ?_ (by first | (simp; done) | (simp; omega) | omega) _ | refine Below.drew ?_ | refine below_drewN ?_ _ | refine Below.alloc ?_ (by first | (simp; done) | (simp; omega) | omega) _ | refine below_alloc ?_ _ | refine below_step ?_ (by assumption)))⟩)
                · first | (exfalso; omega) | (clear hs; have n_k4 : decide (at_ ≤ H) = false := decide_eq_false k4; have n_k2 : decide (r2 ≤ 0) = false := decide_eq_false k2; go_wp2_with (go_at_call 26; refine (awake_any _).mono ?_; rintro e w10 ⟨rfl, hb6⟩); go_ret; exact ⟨rfl, (by repeat (first | exact Below.refl _ _ | assumption | refine Below.setCell ?_ (by first | (simp; done) | (simp; omega) | omega) _ | refine Below.drew ?_ | refine below_drewN ?_ _ | refine Below.alloc ?_ (by first | (simp; done) | (simp; omega) | omega) _ | refine below_alloc ?_ _ | refine below_step ?_ (by assumption)))⟩)
              · first | (exfalso; omega) | (clear hs; have n_k3 : decide (L ≤ at_) = false := decide_eq_false k3; have n_k2 : decide (r2 ≤ 0) = false := decide_eq_false k2; go_wp2_with (go_at_call 26; refine (awake_any _).mono ?_; rintro e w10 ⟨rfl, hb6⟩); go_ret; exact ⟨rfl, (by repeat (first | exact Below.refl _ _ | assumption | refine Below.setCell ?_ (by first | (simp; done) | (simp; omega) | omega) _ | refine Below.drew ?_ | refine below_drewN ?_ _ | refine Below.alloc ?_ (by first | (simp; done) | (simp; omega) | omega) _ | refine below_alloc ?_ _ | refine below_step ?_ (by assumption)))⟩)
          · by_cases k3 : L ≤ at_
            · by_cases k4 : at_ ≤ H
              · first | (exfalso; omega) | (clear hs; have n_k1 : decide (r1 ≤ 0) = false := decide_eq_false k1; go_wp2_with (go_at_call 26; refine (awake_any _).mono ?_; rintro e w10 ⟨rfl, hb6⟩); go_ret; exact ⟨rfl, (by repeat (first | exact Below.refl _ _ | assumption | refine Below.setCell ?_ (by first | (simp; done) | (simp; omega) | omega) _ | refine Below.drew ?_ | refine below_drewN ?_ _ | refine Below.alloc ?_ (by first | (simp; done) | (simp; omega) | omega) _ | refine below_alloc ?_ _ | refine below_step ?_ (by assumption)))⟩)
              · first | (exfalso; omega) | (clear hs; have n_k4 : decide (at_ ≤ H) = false := decide_eq_false k4; have n_k1 : decide (r1 ≤ 0) = false := decide_eq_false k1; go_wp2_with (go_at_call 26; refine (awake_any _).mono ?_; rintro e w10 ⟨rfl, hb6⟩); go_ret; exact ⟨rfl, (by repeat (first | exact Below.refl _ _ | assumption | refine Below.setCell ?_ (by first | (simp; done) | (simp; omega) | omega) _ | refine Below.drew ?_ | refine below_drewN ?_ _ | refine Below.alloc ?_ (by first | (simp; done) | (simp; omega) | omega) _ | refine below_alloc ?_ _ | refine below_step ?_ (by assumption)))⟩)
            · first | (exfalso; omega) | (clear hs; have n_k3 : decide (L ≤ at_) = false := decide_eq_false k3; have n_k1 : decide (r1 ≤ 0) = false := decide_eq_false k1; go_wp2_with (go_at_call 26; refine (awake_any _).mono ?_; rintro e w10 ⟨rfl, hb6⟩); go_ret; exact ⟨rfl, (by repeat (first | exact Below.refl _ _ | assumption | refine Below.setCell ?_ (by first | (simp; done) | (simp; omega) | omega) _ | refine Below.drew ?_ | refine below_drewN ?_ _ | refine Below.alloc ?_ (by first | (simp; done) | (simp; omega) | omega) _ | refine below_alloc ?_ _ | refine below_step ?_ (by assumption)))⟩)
        · have hF' : (F == 0) = false := by simpa using hF
          clear hF C4 C5 HS
          go_wp2_with (go_at_call 26; refine (awake_any _).mono ?_; rintro e w10 ⟨rfl, hb6⟩)
          go_ret
          exact ⟨rfl, (by repeat (first | exact Below.refl _ _ | assumption | refine Below.setCell ?_ (by first | (simp; done) | (simp; omega) | omega) _ | refine Below.drew ?_ | refine below_drewN ?_ _ | refine Below.alloc ?_ (by first | (simp; done) | (simp; omega) | omega) _ | refine below_alloc ?_ _ | refine below_step ?_ (by assumption)))⟩
      · go_enter Try.func11, Try.ntmps11
        go_wp2
        (refine wp_region_later (by kernel_rfl) (by kernel_rfl) ?_; (repeat (go_big_quiet_step ((fail)))); refine wpQuiet_nil ?_)
        intro w1 hb
        have hB_w1 : Below w.heap.size w w1 := (by repeat (first | exact Below.refl _ _ | assumption | refine Below.setCell ?_ (by first | (simp; done) | (simp; omega) | omega) _ | refine Below.drew ?_ | refine below_drewN ?_ _ | refine Below.alloc ?_ (by first | (simp; done) | (simp; omega) | omega) _ | refine below_alloc ?_ _ | refine below_step ?_ (by assumption))); have hz_w1 := hB_w1.size; have hsw10 : w.heap.size < w1.heap.size := Nat.lt_of_lt_of_le (by first | (simp; done) | (simp; omega) | omega) hb.size; have hnw10 : ¬ w.heap.size = w1.heap.size := (by omega); have hmw10 : ¬ w1.heap.size = w.heap.size := (by omega); have hlw10_0 : w.heap.size ≤ w1.heap.size := (by omega); have hlw10_1 : w.heap.size ≤ w1.heap.size + 1 := (by omega); have hlw10_2 : w.heap.size ≤ w1.heap.size + 1 + 1 := (by omega); have hkw10 : w1.cell? ⟨w.heap.size, 0, none⟩ = some (.int .i64 span) := (by rw [hb.cell (p := ⟨w.heap.size, 0, none⟩) (by first | (simp; done) | (simp; omega) | omega)]; first | (go_simp; done) | assumption); have hkw11 : w1.cell? ⟨w.heap.size, 1, none⟩ = some (.slice A len cap) := (by rw [hb.cell (p := ⟨w.heap.size, 1, none⟩) (by first | (simp; done) | (simp; omega) | omega)]; first | (go_simp; done) | assumption); have hsw12 : w.heap.size + 1 < w1.heap.size := Nat.lt_of_lt_of_le (by first | (simp; done) | (simp; omega) | omega) hb.size; have hnw12 : ¬ w.heap.size + 1 = w1.heap.size := (by omega); have hmw12 : ¬ w1.heap.size = w.heap.size + 1 := (by omega); have hlw12_0 : w.heap.size + 1 ≤ w1.heap.size := (by omega); have hlw12_1 : w.heap.size + 1 ≤ w1.heap.size + 1 := (by omega); have hlw12_2 : w.heap.size + 1 ≤ w1.heap.size + 1 + 1 := (by omega); have hkw12 : w1.cell? ⟨w.heap.size + 1, 0, none⟩ = some (.int .i64 wt) := (by rw [hb.cell (p := ⟨w.heap.size + 1, 0, none⟩) (by first | (simp; done) | (simp; omega) | omega)]; first | (go_simp; done) | assumption); have hkw13 : w1.cell? ⟨w.heap.size + 1, 1, none⟩ = some (.int .i64 lim) := (by rw [hb.cell (p := ⟨w.heap.size + 1, 1, none⟩) (by first | (simp; done) | (simp; omega) | omega)]; first | (go_simp; done) | assumption); have hkw14 : w1.cell? ⟨w.heap.size + 1, 2, none⟩ = some (.int .i64 at_) := (by rw [hb.cell (p := ⟨w.heap.size + 1, 2, none⟩) (by first | (simp; done) | (simp; omega) | omega)]; first | (go_simp; done) | assumption); clear hb
        go_wp2_with fail
        refine (C1.out _ (by repeat (first | exact Below.refl _ _ | assumption | refine Below.setCell ?_ (by first | (simp; done) | (simp; omega) | omega) _ | refine Below.drew ?_ | refine below_drewN ?_ _ | refine Below.alloc ?_ (by first | (simp; done) | (simp; omega) | omega) _ | refine below_alloc ?_ _ | refine below_step ?_ (by assumption)))).mono ?_
        rintro e w2 ⟨rfl, hb⟩
        have hB_w2 : Below w.heap.size w w2 := (by repeat (first | exact Below.refl _ _ | assumption | refine Below.setCell ?_ (by first | (simp; done) | (simp; omega) | omega) _ | refine Below.drew ?_ | refine below_drewN ?_ _ | refine Below.alloc ?_ (by first | (simp; done) | (simp; omega) | omega) _ | refine below_alloc ?_ _ | refine below_step ?_ (by assumption))); have hz_w2 := hB_w2.size; have hsw20 : w.heap.size < w2.heap.size := Nat.lt_of_lt_of_le (by first | (simp; done) | (simp; omega) | omega) hb.size; have hnw20 : ¬ w.heap.size = w2.heap.size := (by omega); have hmw20 : ¬ w2.heap.size = w.heap.size := (by omega); have hlw20_0 : w.heap.size ≤ w2.heap.size := (by omega); have hlw20_1 : w.heap.size ≤ w2.heap.size + 1 := (by omega); have hlw20_2 : w.heap.size ≤ w2.heap.size + 1 + 1 := (by omega); have hkw20 : w2.cell? ⟨w.heap.size, 0, none⟩ = some (.int .i64 span) := (by rw [hb.cell (p := ⟨w.heap.size, 0, none⟩) (by first | (simp; done) | (simp; omega) | omega)]; first | (go_simp; done) | assumption); have hkw21 : w2.cell? ⟨w.heap.size, 1, none⟩ = some (.slice A len cap) := (by rw [hb.cell (p := ⟨w.heap.size, 1, none⟩) (by first | (simp; done) | (simp; omega) | omega)]; first | (go_simp; done) | assumption); clear hb hB_w1 hlw10_0 hlw10_1 hlw10_2 hkw10 hkw11 hlw12_0 hlw12_1 hlw12_2 hkw12 hkw13 hkw14
        go_wp2_with (at_builtin; go_loud (refine wpList_append_src rfl (.tmp 46) (.tmp 48) 40 rfl w2.heap.size 48 i0 (.agg #[.int .i64 0, .int .i64 0]) 2 16 Try.underlying40 hI0.out hI1.out hI2.out hI3.out rfl (by decide) (.slice (some ⟨w2.heap.size, 0, none⟩) 0 0) 0 [] rfl (World.ownsRow_made w2 #[] 0 (Nat.le_refl _) (by decide) rfl) (by simp) _ len cap (pcells xs) rfl (by rw [pcells_len, HX.out.1]) (by intro hA; have := HX.out.2; rcases Nat.eq_zero_or_pos len with h | h; exact h; obtain ⟨b, off, hb, _⟩ := this h; rw [hA] at hb; cases hb) (HX.out.below (B := w.heap.size) (w' := w2.alloc _) (by repeat (first | exact Below.refl _ _ | assumption | refine Below.setCell ?_ (by first | (simp; done) | (simp; omega) | omega) _ | refine Below.drew ?_ | refine below_drewN ?_ _ | refine Below.alloc ?_ (by first | (simp; done) | (simp; omega) | omega) _ | refine below_alloc ?_ _ | refine below_step ?_ (by assumption)))).cells (pcells_one xs) (by unfold maxLen; omega) (by omega) (by simp) ?_))
        intro v1 w4 hown1 hgr1 _
        have hb4 : Below w2.heap.size w2 w4 := ((Below.refl _ _).alloc (Nat.le_refl _) _).trans (grown_below hgr1 (by simp) (by intro k hk; simp [Value.ownBlock] at hk; omega))
        have hz4 := hb4.size
        have HO1 := Lib.hid hown1
        clear hown1 hgr1
        go_wp2_with (at_builtin; go_loud (refine wpList_append_own _ rfl (.tmp 49) (.tmp 53) 40 rfl w2.heap.size 48 i0 (.agg #[.int .i64 0, .int .i64 0]) 2 16 Try.underlying40 hI0.out hI1.out hI2.out hI3.out rfl (by decide) v1 len (pcells xs) rfl (by simpa using HO1.out.alloc _) ⟨w4.heap.size, 0, none⟩ 1 1 [.int .i64 at_, .int .i64 wt] rfl rfl (news2w _ _ _ _) (one2w _ _) (by unfold maxLen; omega) (by omega) (by simp; omega) ?_))
        intro v2 w5 hown2 hgr2 _
        have hb : Below w2.heap.size w2 w5 := hb4.trans ((Below.alloc (Below.refl _ _) hz4 _).trans (grown_below hgr2 (by simp; omega) (fun q hq => (HO1.out.lt q hq).1)))
        have hown3 : w5.ownsRow w2.heap.size 48 2 v2 (len + 1) (pcells ys) := by
          rw [hpc.out]
          simpa [pcells] using hown2
        clear hown2 hgr2
        obtain ⟨A', cap', rfl, hnc, hmx, hP', _⟩ := own_pairs hown3
        have HP := Lib.hid hP'
        clear hP' hown3
        unfold maxLen at hmx
        have hB_w5 : Below w.heap.size w w5 := (by repeat (first | exact Below.refl _ _ | assumption | refine Below.setCell ?_ (by first | (simp; done) | (simp; omega) | omega) _ | refine Below.drew ?_ | refine below_drewN ?_ _ | refine Below.alloc ?_ (by first | (simp; done) | (simp; omega) | omega) _ | refine below_alloc ?_ _ | refine below_step ?_ (by assumption))); have hz_w5 := hB_w5.size; have hsw50 : w.heap.size < w5.heap.size := Nat.lt_of_lt_of_le (by first | (simp; done) | (simp; omega) | omega) hb.size; have hnw50 : ¬ w.heap.size = w5.heap.size := (by omega); have hmw50 : ¬ w5.heap.size = w.heap.size := (by omega); have hlw50_0 : w.heap.size ≤ w5.heap.size := (by omega); have hlw50_1 : w.heap.size ≤ w5.heap.size + 1 := (by omega); have hlw50_2 : w.heap.size ≤ w5.heap.size + 1 + 1 := (by omega); have hkw50 : w5.cell? ⟨w.heap.size, 0, none⟩ = some (.int .i64 span) := (by rw [hb.cell (p := ⟨w.heap.size, 0, none⟩) (by first | (simp; done) | (simp; omega) | omega)]; first | (go_simp; done) | assumption); have hkw51 : w5.cell? ⟨w.heap.size, 1, none⟩ = some (.slice A len cap) := (by rw [hb.cell (p := ⟨w.heap.size, 1, none⟩) (by first | (simp; done) | (simp; omega) | omega)]; first | (go_simp; done) | assumption); clear hb hB_w2 hlw20_0 hlw20_1 hlw20_2 hkw20 hkw21
        clear hb4 hz4 HO1
        go_wp2_with fail
        refine (C3.out A' cap' _ HP.out).mono ?_
        rintro e w6 ⟨rfl, hb⟩
        have hB_w6 : Below w.heap.size w w6 := (by repeat (first | exact Below.refl _ _ | assumption | refine Below.setCell ?_ (by first | (simp; done) | (simp; omega) | omega) _ | refine Below.drew ?_ | refine below_drewN ?_ _ | refine Below.alloc ?_ (by first | (simp; done) | (simp; omega) | omega) _ | refine below_alloc ?_ _ | refine below_step ?_ (by assumption))); have hz_w6 := hB_w6.size; clear hb hB_w5 hlw50_0 hlw50_1 hlw50_2 hkw50 hkw51
        by_cases hF : F = 0
        · have C6 := Lib.hid (C4.out hF)
          have C7 := Lib.hid (C5.out hF)
          have hs := HS.out hF
          subst hF
          clear C4 C5 HS
          simp only [true_and, show ((8:Int) = 0) = False from by decide, false_and, iff_false] at hs
          go_wp2_with fail
          refine (C6.out _).mono ?_
          rintro e w7 ⟨rfl, hb⟩
          have hB_w7 : Below w.heap.size w w7 := (by repeat (first | exact Below.refl _ _ | assumption | refine Below.setCell ?_ (by first | (simp; done) | (simp; omega) | omega) _ | refine Below.drew ?_ | refine below_drewN ?_ _ | refine Below.alloc ?_ (by first | (simp; done) | (simp; omega) | omega) _ | refine below_alloc ?_ _ | refine below_step ?_ (by assumption))); have hz_w7 := hB_w7.size; have hsw70 : w6.heap.size + 1 < w7.heap.size := Nat.lt_of_lt_of_le (by first | (simp; done) | (simp; omega) | omega) hb.size; have hnw70 : ¬ w6.heap.size + 1 = w7.heap.size := (by omega); have hmw70 : ¬ w7.heap.size = w6.heap.size + 1 := (by omega); have hlw70_0 : w6.heap.size + 1 ≤ w7.heap.size := (by omega); have hlw70_1 : w6.heap.size + 1 ≤ w7.heap.size + 1 := (by omega); have hlw70_2 : w6.heap.size + 1 ≤ w7.heap.size + 1 + 1 := (by omega); have hkw70 : w7.cell? ⟨w6.heap.size + 1, 0, none⟩ = some (.int .i64 N2) := (by rw [hb.cell (p := ⟨w6.heap.size + 1, 0, none⟩) (by first | (simp; done) | (simp; omega) | omega)]; first | (go_simp; done) | assumption); have hkw71 : w7.cell? ⟨w6.heap.size + 1, 1, none⟩ = some (.int .i64 D2) := (by rw [hb.cell (p := ⟨w6.heap.size + 1, 1, none⟩) (by first | (simp; done) | (simp; omega) | omega)]; first | (go_simp; done) | assumption); have hsw72 : w6.heap.size + 2 < w7.heap.size := Nat.lt_of_lt_of_le (by first | (simp; done) | (simp; omega) | omega) hb.size; have hnw72 : ¬ w6.heap.size + 2 = w7.heap.size := (by omega); have hmw72 : ¬ w7.heap.size = w6.heap.size + 2 := (by omega); have hlw72_0 : w6.heap.size + 2 ≤ w7.heap.size := (by omega); have hlw72_1 : w6.heap.size + 2 ≤ w7.heap.size + 1 := (by omega); have hlw72_2 : w6.heap.size + 2 ≤ w7.heap.size + 1 + 1 := (by omega); have hkw72 : w7.cell? ⟨w6.heap.size + 2, 0, none⟩ = some (.int .i64 lim) := (by rw [hb.cell (p := ⟨w6.heap.size + 2, 0, none⟩) (by first | (simp; done) | (simp; omega) | omega)]; first | (go_simp; done) | assumption); have hkw73 : w7.cell? ⟨w6.heap.size + 2, 1, none⟩ = some (.int .i64 1) := (by rw [hb.cell (p := ⟨w6.heap.size + 2, 1, none⟩) (by first | (simp; done) | (simp; omega) | omega)]; first | (go_simp; done) | assumption); clear hb hB_w6
          by_cases k1 : r1 ≤ 0
          · go_wp2_with fail
            refine (C7.out _).mono ?_
            rintro e w8 ⟨rfl, hb⟩
            have hB_w8 : Below w.heap.size w w8 := (by repeat (first | exact Below.refl _ _ | assumption | refine Below.setCell ?_ (by first | (simp; done) | (simp; omega) | omega) _ | refine Below.drew ?_ | refine below_drewN ?_ _ | refine Below.alloc ?_ (by first | (simp; done) | (simp; omega) | omega) _ | refine below_alloc ?_ _ | refine below_step ?_ (by assumption))); have hz_w8 := hB_w8.size; clear hb hB_w7 hlw70_0 hlw70_1 hlw70_2 hkw70 hkw71 hlw72_0 hlw72_1 hlw72_2 hkw72 hkw73
            by_cases k2 : r2 ≤ 0
            · by_cases k3 : L ≤ at_
              · by_cases k4 : at_ ≤ H
                · first | (exfalso; omega) | (clear hs; go_wp2_with (go_at_call 26; refine (awake_any _).mono ?_; rintro e w10 ⟨rfl, hb6⟩); go_ret; exact ⟨rfl, (by repeat (first | exact Below.refl _ _ | assumption | refine Below.setCell ?_ (by first | (simp; done) | (simp; omega) | omega) _ | refine Below.drew ?_ | refine below_drewN ?_ _ | refine Below.alloc ?_ (by first | (simp; done) | (simp; omega) | omega) _ | refine below_alloc ?_ _ | refine below_step ?_ (by assumption)))⟩)
                · first | (exfalso; omega) | (clear hs; have n_k4 : decide (at_ ≤ H) = false := decide_eq_false k4; go_wp2_with (go_at_call 26; refine (awake_any _).mono ?_; rintro e w10 ⟨rfl, hb6⟩); go_ret; exact ⟨rfl, (by repeat (first | exact Below.refl _ _ | assumption | refine Below.setCell ?_ (by first | (simp; done) | (simp; omega) | omega) _ | refine Below.drew ?_ | refine below_drewN ?_ _ | refine Below.alloc ?_ (by first | (simp; done) | (simp; omega) | omega) _ | refine below_alloc ?_ _ | refine below_step ?_ (by assumption)))⟩)
              · first | (exfalso; omega) | (clear hs; have n_k3 : decide (L ≤ at_) = false := decide_eq_false k3; go_wp2_with (go_at_call 26; refine (awake_any _).mono ?_; rintro e w10 ⟨rfl, hb6⟩); go_ret; exact ⟨rfl, (by repeat (first | exact Below.refl _ _ | assumption | refine Below.setCell ?_ (by first | (simp; done) | (simp; omega) | omega) _ | refine Below.drew ?_ | refine below_drewN ?_ _ | refine Below.alloc ?_ (by first | (simp; done) | (simp; omega) | omega) _ | refine below_alloc ?_ _ | refine below_step ?_ (by assumption)))⟩)
            · by_cases k3 : L ≤ at_
              · by_cases k4 : at_ ≤ H
                · first | (exfalso; omega) | (clear hs; have n_k2 : decide (r2 ≤ 0) = false := decide_eq_false k2; go_wp2_with (go_at_call 26; refine (awake_any _).mono ?_; rintro e w10 ⟨rfl, hb6⟩); go_ret; exact ⟨rfl, (by repeat (first | exact Below.refl _ _ | assumption | refine Below.setCell ?_ (by first | (simp; done) | (simp; omega) | omega) _ | refine Below.drew ?_ | refine below_drewN ?_ _ | refine Below.alloc ?_ (by first | (simp; done) | (simp; omega) | omega) _ | refine below_alloc ?_ _ | refine below_step ?_ (by assumption)))⟩)
                · first | (exfalso; omega) | (clear hs; have n_k4 : decide (at_ ≤ H) = false := decide_eq_false k4; have n_k2 : decide (r2 ≤ 0) = false := decide_eq_false k2; go_wp2_with (go_at_call 26; refine (awake_any _).mono ?_; rintro e w10 ⟨rfl, hb6⟩); go_ret; exact ⟨rfl, (by repeat (first | exact Below.refl _ _ | assumption | refine Below.setCell ?_ (by first | (simp; done) | (simp; omega) | omega) _ | refine Below.drew ?_ | refine below_drewN ?_ _ | refine Below.alloc ?_ (by first | (simp; done) | (simp; omega) | omega) _ | refine below_alloc ?_ _ | refine below_step ?_ (by assumption)))⟩)
              · first | (exfalso; omega) | (clear hs; have n_k3 : decide (L ≤ at_) = false := decide_eq_false k3; have n_k2 : decide (r2 ≤ 0) = false := decide_eq_false k2; go_wp2_with (go_at_call 26; refine (awake_any _).mono ?_; rintro e w10 ⟨rfl, hb6⟩); go_ret; exact ⟨rfl, (by repeat (first | exact Below.refl _ _ | assumption | refine Below.setCell ?_ (by first | (simp; done) | (simp; omega) | omega) _ | refine Below.drew ?_ | refine below_drewN ?_ _ | refine Below.alloc ?_ (by first | (simp; done) | (simp; omega) | omega) _ | refine below_alloc ?_ _ | refine below_step ?_ (by assumption)))⟩)
          · by_cases k3 : L ≤ at_
            · by_cases k4 : at_ ≤ H
              · first | (exfalso; omega) | (clear hs; have n_k1 : decide (r1 ≤ 0) = false := decide_eq_false k1; go_wp2_with (go_at_call 26; refine (awake_any _).mono ?_; rintro e w10 ⟨rfl, hb6⟩); go_ret; exact ⟨rfl, (by repeat (first | exact Below.refl _ _ | assumption | refine Below.setCell ?_ (by first | (simp; done) | (simp; omega) | omega) _ | refine Below.drew ?_ | refine below_drewN ?_ _ | refine Below.alloc ?_ (by first | (simp; done) | (simp; omega) | omega) _ | refine below_alloc ?_ _ | refine below_step ?_ (by assumption)))⟩)
              · first | (exfalso; omega) | (clear hs; have n_k4 : decide (at_ ≤ H) = false := decide_eq_false k4; have n_k1 : decide (r1 ≤ 0) = false := decide_eq_false k1; go_wp2_with (go_at_call 26; refine (awake_any _).mono ?_; rintro e w10 ⟨rfl, hb6⟩); go_ret; exact ⟨rfl, (by repeat (first | exact Below.refl _ _ | assumption | refine Below.setCell ?_ (by first | (simp; done) | (simp; omega) | omega) _ | refine Below.drew ?_ | refine below_drewN ?_ _ | refine Below.alloc ?_ (by first | (simp; done) | (simp; omega) | omega) _ | refine below_alloc ?_ _ | refine below_step ?_ (by assumption)))⟩)
            · first | (exfalso; omega) | (clear hs; have n_k3 : decide (L ≤ at_) = false := decide_eq_false k3; have n_k1 : decide (r1 ≤ 0) = false := decide_eq_false k1; go_wp2_with (go_at_call 26; refine (awake_any _).mono ?_; rintro e w10 ⟨rfl, hb6⟩); go_ret; exact ⟨rfl, (by repeat (first | exact Below.refl _ _ | assumption | refine Below.setCell ?_ (by first | (simp; done) | (simp; omega) | omega) _ | refine Below.drew ?_ | refine below_drewN ?_ _ | refine Below.alloc ?_ (by first | (simp; done) | (simp; omega) | omega) _ | refine below_alloc ?_ _ | refine below_step ?_ (by assumption)))⟩)
        · have hF' : (F == 0) = false := by simpa using hF
          clear hF C4 C5 HS
          go_wp2_with (go_at_call 26; refine (awake_any _).mono ?_; rintro e w10 ⟨rfl, hb6⟩)
          go_ret
          exact ⟨rfl, (by repeat (first | exact Below.refl _ _ | assumption | refine Below.setCell ?_ (by first | (simp; done) | (simp; omega) | omega) _ | refine Below.drew ?_ | refine below_drewN ?_ _ | refine Below.alloc ?_ (by first | (simp; done) | (simp; omega) | omega) _ | refine below_alloc ?_ _ | refine below_step ?_ (by assumption)))⟩
    · generalize walkL span xs wt lim = L at *
      generalize walkH span xs wt lim = H at *
      generalize walkE span xs wt lim = E at *
      have e1 : (E == 0) = false := by simp; omega
      have e2 : (E == 8) = false := by simp; omega
      have e3 : (E != 0) = true := by simp; omega
      have e4 : (E != 8) = true := by simp; omega
      have C1 := Lib.hid c1
      clear c1 hx hE
      go_enter Try.func11, Try.ntmps11
      go_wp2
      (refine wp_region_later (by kernel_rfl) (by kernel_rfl) ?_; (repeat (go_big_quiet_step ((fail)))); refine wpQuiet_nil ?_)
      intro w1 hb
      have hB_w1 : Below w.heap.size w w1 := (by repeat (first | exact Below.refl _ _ | assumption | refine Below.setCell ?_ (by first | (simp; done) | (simp; omega) | omega) _ | refine Below.drew ?_ | refine below_drewN ?_ _ | refine Below.alloc ?_ (by first | (simp; done) | (simp; omega) | omega) _ | refine below_alloc ?_ _ | refine below_step ?_ (by assumption))); have hz_w1 := hB_w1.size; have hsw10 : w.heap.size < w1.heap.size := Nat.lt_of_lt_of_le (by first | (simp; done) | (simp; omega) | omega) hb.size; have hnw10 : ¬ w.heap.size = w1.heap.size := (by omega); have hmw10 : ¬ w1.heap.size = w.heap.size := (by omega); have hlw10_0 : w.heap.size ≤ w1.heap.size := (by omega); have hlw10_1 : w.heap.size ≤ w1.heap.size + 1 := (by omega); have hlw10_2 : w.heap.size ≤ w1.heap.size + 1 + 1 := (by omega); have hkw10 : w1.cell? ⟨w.heap.size, 0, none⟩ = some (.int .i64 span) := (by rw [hb.cell (p := ⟨w.heap.size, 0, none⟩) (by first | (simp; done) | (simp; omega) | omega)]; first | (go_simp; done) | assumption); have hkw11 : w1.cell? ⟨w.heap.size, 1, none⟩ = some (.slice A len cap) := (by rw [hb.cell (p := ⟨w.heap.size, 1, none⟩) (by first | (simp; done) | (simp; omega) | omega)]; first | (go_simp; done) | assumption); have hsw12 : w.heap.size + 1 < w1.heap.size := Nat.lt_of_lt_of_le (by first | (simp; done) | (simp; omega) | omega) hb.size; have hnw12 : ¬ w.heap.size + 1 = w1.heap.size := (by omega); have hmw12 : ¬ w1.heap.size = w.heap.size + 1 := (by omega); have hlw12_0 : w.heap.size + 1 ≤ w1.heap.size := (by omega); have hlw12_1 : w.heap.size + 1 ≤ w1.heap.size + 1 := (by omega); have hlw12_2 : w.heap.size + 1 ≤ w1.heap.size + 1 + 1 := (by omega); have hkw12 : w1.cell? ⟨w.heap.size + 1, 0, none⟩ = some (.int .i64 wt) := (by rw [hb.cell (p := ⟨w.heap.size + 1, 0, none⟩) (by first | (simp; done) | (simp; omega) | omega)]; first | (go_simp; done) | assumption); have hkw13 : w1.cell? ⟨w.heap.size + 1, 1, none⟩ = some (.int .i64 lim) := (by rw [hb.cell (p := ⟨w.heap.size + 1, 1, none⟩) (by first | (simp; done) | (simp; omega) | omega)]; first | (go_simp; done) | assumption); have hkw14 : w1.cell? ⟨w.heap.size + 1, 2, none⟩ = some (.int .i64 at_) := (by rw [hb.cell (p := ⟨w.heap.size + 1, 2, none⟩) (by first | (simp; done) | (simp; omega) | omega)]; first | (go_simp; done) | assumption); clear hb
      go_wp2_with fail
      refine (C1.out _ (by repeat (first | exact Below.refl _ _ | assumption | refine Below.setCell ?_ (by first | (simp; done) | (simp; omega) | omega) _ | refine Below.drew ?_ | refine below_drewN ?_ _ | refine Below.alloc ?_ (by first | (simp; done) | (simp; omega) | omega) _ | refine below_alloc ?_ _ | refine below_step ?_ (by assumption)))).mono ?_
      rintro e w2 ⟨rfl, hb⟩
      have hB_w2 : Below w.heap.size w w2 := (by repeat (first | exact Below.refl _ _ | assumption | refine Below.setCell ?_ (by first | (simp; done) | (simp; omega) | omega) _ | refine Below.drew ?_ | refine below_drewN ?_ _ | refine Below.alloc ?_ (by first | (simp; done) | (simp; omega) | omega) _ | refine below_alloc ?_ _ | refine below_step ?_ (by assumption))); have hz_w2 := hB_w2.size; clear hb hB_w1 hlw10_0 hlw10_1 hlw10_2 hkw10 hkw11 hlw12_0 hlw12_1 hlw12_2 hkw12 hkw13 hkw14
      go_wp2_with (go_at_call 26; refine (awake_any _).mono ?_; rintro e w10 ⟨rfl, hb6⟩)
      go_ret
      exact ⟨rfl, (by repeat (first | exact Below.refl _ _ | assumption | refine Below.setCell ?_ (by first | (simp; done) | (simp; omega) | omega) _ | refine Below.drew ?_ | refine below_drewN ?_ _ | refine Below.alloc ?_ (by first | (simp; done) | (simp; omega) | omega) _ | refine below_alloc ?_ _ | refine below_step ?_ (by assumption)))⟩
end Go.Proofs.Ythninhkimhnegaa
