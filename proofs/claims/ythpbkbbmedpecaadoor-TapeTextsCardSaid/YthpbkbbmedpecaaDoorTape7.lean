/- Tapes: Joined, resistance, Resistance. -/
import Derived.Test.YthpbkbbmedpecaaDoorTape5
import Derived.Test.YthpbkbbmedpecaaDoorTape6
set_option linter.unusedSimpArgs false
set_option linter.unusedVariables false
namespace Go.Proofs.YthpbkbbmedpecaaDoor
open Go.RowKit
attribute [local go_sem] Later.cell Same.cell

theorem ints2 (W : World) (a b : Int) (t : TypeId) : Ints (W.alloc (.cells #[.int .i64 a, .int .i64 b] t)) (W.alloc (.cells #[.int .i64 a, .int .i64 b] t)).heap.size (some ⟨W.heap.size, 0, none⟩) 2 [a, b] := by
  refine ⟨rfl, fun _ => ⟨W.heap.size, 0, rfl, by simp, fun k hk => ?_⟩⟩
  rcases (by omega : k = 0 ∨ k = 1) with rfl | rfl <;> simp
def jnB (l : List Tp) (a b : Int) : Bool := at6 (full l R0) a == at6 (full l R0) b
def jnV (n : Int) (l : List Tp) (a b : Int) : Bool := decide (askE n l [a, b] = 0) && jnB l a b
theorem ask_cases (n : Int) (l : List Tp) (a b : Int) : (askE n l [a, b] = 0 ∧ vNet n l = true ∧ nod a ∧ nod b) ∨ (askE n l [a, b] ≠ 0) := by
  unfold askE
  cases hv : vNet n l
  · exact .inr (by simp)
  · cases hw : allW n [a, b]
    · exact .inr (by simp)
    · have hn := (vNet_spec hv).1
      simp only [allW, List.all_cons, List.all_nil, Bool.and_true, Bool.and_eq_true] at hw
      have h1 := withinB_iff.1 hw.1
      have h2 := withinB_iff.1 hw.2
      exact .inl ⟨rfl, rfl, ⟨h1.1, by omega⟩, h2.1, by omega⟩
set_option maxRecDepth 20000 in
set_option maxHeartbeats 4000000 in
theorem Joined_any (n : Int) (A : Option Addr) (len cap : Nat) (l : List Tp) (a b : Int) (w : World) (hm : len ≤ 9223372036854775807) (hx : Rows 3 int3 (0,0,0) w w.heap.size A len l) :
    Calls Tryd.prog 25 #[.int .i64 n, .slice A len cap, .int .i64 a, .int .i64 b] w fun e w' => e = .returned (.tuple #[.bool (jnV n l a b), .int .i64 (askE n l [a, b])]) ∧ Below w.heap.size w w' := by
  have c1 := fun t => asked_any n A len cap l (some ⟨w.heap.size, 0, none⟩) 2 2 [a, b] (w.alloc (.cells #[.int .i64 a, .int .i64 b] t)) hm (by omega) ((hx.below ((Below.refl _ _).alloc (Nat.le_refl _) _)).more (by simp)) (ints2 w a b t)
  have hV : jnV n l a b = (decide (askE n l [a, b] = 0) && jnB l a b) := rfl
  rcases ask_cases n l a b with ⟨h0, hv, ha, hb⟩ | h0
  · obtain ⟨hn, hlen, hl⟩ := vNet_spec hv
    rw [hx.1] at hlen
    have c2 := fun W => whole_any A len cap W hlen
    have hpw : 1 ≤ 2 ^ len ∧ 2 ^ len ≤ 1024 := ⟨Nat.pow_pos (by decide), Nat.pow_le_pow_right (by decide) hlen⟩
    have c3 := fun W (h : Below w.heap.size w W) => joined_any A len cap l (2 ^ len - 1) W hlen (by omega) ((hx.below h).more h.size) hl
    have hfu : (jk l (2 ^ len - 1) len).1 = full l R0 := by rw [← hx.1]; exact jk_full
    have hR : (full l R0).length = 6 := full_len l R0
    rw [h0, decide_eq_true rfl, Bool.true_and] at hV
    rw [h0] at c1
    rw [h0, hV]
    have hJ : jnB l a b = (at6 (full l R0) a == at6 (full l R0) b) := rfl
    rw [hJ]
    generalize jk l (2 ^ len - 1) len = q at *
    obtain ⟨R, qt⟩ := q
    dsimp only at *
    subst hfu
    generalize full l R0 = R at *
    unfold arrV at c3
    have C1 := Lib.hid c1
    have C2 := Lib.hid c2
    have C3 := Lib.hid c3
    have HR := Lib.hid hR
    generalize 2 ^ len = N at *
    clear c1 c2 c3 hx hV hJ hR h0 hv hl
    obtain ⟨ha0, ha1⟩ := ha
    obtain ⟨hb0, hb1⟩ := hb
    go_enter Tryd.func25, Tryd.ntmps25
    go_wp2_with fail
    refine (C1.out _).mono ?_
    rintro e w1 ⟨rfl, hb⟩
    have hB_w1 : Below w.heap.size w w1 := (by repeat (first | exact Below.refl _ _ | assumption | refine Below.setCell ?_ (by first | (simp; done) | (simp; omega) | omega) _ | refine Below.drew ?_ | refine below_drewN ?_ _ | refine Below.alloc ?_ (by first | (simp; done) | (simp; omega) | omega) _ | refine below_alloc ?_ _ | refine below_step ?_ (by assumption))); have hz_w1 := hB_w1.size; clear hb
    go_wp2_with (first | (go_at_call 43; refine (C2.out _).mono ?_; rintro e w' ⟨rfl, rfl⟩) | (go_at_call 42; refine (C3.out _ hB_w1).mono ?_; rintro e w2 ⟨rfl, hb2⟩))
    have hA := arr_blk w2 HR.out 80
    have hga := (hA.at_ a.toNat (by omega)).1
    have hgb := (hA.at_ b.toNat (by omega)).1
    rw [num_at6'] at hga hgb
    have hB2 : Below w.heap.size w w2 := hB_w1.trans (hb2.mono hz_w1)
    have hs2 := hB2.size
    clear hA hb2
    (refine wp_region_later (by kernel_rfl) (by kernel_rfl) ?_; (repeat (go_big_quiet_step ((fail)))); refine wpQuiet_nil ?_)
    intro w4 hb4
    go_wp2
    go_ret2
    exact ⟨rfl, (hB2.alloc hs2 _).trans (hb4.mono (by simp; omega))⟩
  · have h0' : (askE n l [a, b] == 0) = false := by simpa using h0
    rw [decide_eq_false h0, Bool.false_and] at hV
    rw [hV]
    generalize askE n l [a, b] = E at *
    have C1 := Lib.hid c1
    clear c1 hx hV h0
    go_enter Tryd.func25, Tryd.ntmps25
    go_wp2_with fail
    refine (C1.out _).mono ?_
    rintro e w1 ⟨rfl, hb⟩
    have hB_w1 : Below w.heap.size w w1 := (by repeat (first | exact Below.refl _ _ | assumption | refine Below.setCell ?_ (by first | (simp; done) | (simp; omega) | omega) _ | refine Below.drew ?_ | refine below_drewN ?_ _ | refine Below.alloc ?_ (by first | (simp; done) | (simp; omega) | omega) _ | refine below_alloc ?_ _ | refine below_step ?_ (by assumption))); have hz_w1 := hB_w1.size; clear hb
    go_wp2
    go_ret2
    exact ⟨rfl, (by repeat (first | exact Below.refl _ _ | assumption | refine Below.setCell ?_ (by first | (simp; done) | (simp; omega) | omega) _ | refine Below.drew ?_ | refine below_drewN ?_ _ | refine Below.alloc ?_ (by first | (simp; done) | (simp; omega) | omega) _ | refine below_alloc ?_ _ | refine below_step ?_ (by assumption)))⟩
def resN (l : List Tp) (a b : Int) : Int := if a = b then 0 else lowN (twosN l a a b) (treesN l a)
def resD (l : List Tp) (a b : Int) : Int := if a = b then 1 else lowD (twosN l a a b) (treesN l a)
set_option maxRecDepth 20000 in
set_option maxHeartbeats 4000000 in
theorem resistance_any (A : Option Addr) (len cap : Nat) (l : List Tp) (a b : Int) (w : World) (hm : len ≤ 10) (ha : nod a) (hb : nod b) (hl : okL l) (hx : Rows 3 int3 (0,0,0) w w.heap.size A len l) :
    Calls Tryd.prog 26 #[.slice A len cap, .int .i64 a, .int .i64 b] w fun e w' => e = .returned (.agg #[.int .i64 (resN l a b), .int .i64 (resD l a b)]) ∧ Below w.heap.size w w' := by
  by_cases hab : a = b
  · subst hab
    have h1 : resN l a a = 0 := if_pos rfl
    have h2 : resD l a a = 1 := if_pos rfl
    rw [h1, h2]
    clear hx hl h1 h2
    go_enter Tryd.func26, Tryd.ntmps26
    go_wp2
    exact bodyPost_ret (v := .agg #[.int .i64 0, .int .i64 1]) (by simp [results, Tryd.results26, go_sem]) rfl ⟨rfl, (by repeat (first | exact Below.refl _ _ | assumption | refine Below.setCell ?_ (by first | (simp; done) | (simp; omega) | omega) _ | refine Below.drew ?_ | refine below_drewN ?_ _ | refine Below.alloc ?_ (by first | (simp; done) | (simp; omega) | omega) _ | refine below_alloc ?_ _ | refine below_step ?_ (by assumption)))⟩
  · have hab' : (a == b) = false := by simpa using hab
    have h1 : resN l a b = lowN (twosN l a a b) (treesN l a) := if_neg hab
    have h2 : resD l a b = lowD (twosN l a a b) (treesN l a) := if_neg hab
    rw [h1, h2]
    have hll := hx.1
    have c1 := fun W (h : Below w.heap.size w W) => near_any A len cap l a W hm ha ((hx.below h).more h.size) hl
    have hfu : (jk l (2 ^ len - 1) len).1 = full l R0 := by rw [← hx.1]; exact jk_full
    rw [hfu] at c1
    have hnk : nearK (full l R0) (at6 (full l R0) a) l len = near l a := by unfold nearK near; rw [List.take_of_length_le (by omega)]
    have hcl : (cntK (full l R0) (at6 (full l R0) a) 6 : Int) - 1 = ((cls l a - 1 : Nat) : Int) := by
      have := (near_labs hl ha).2
      rw [cntK_six]
      show ((cls l a : Nat) : Int) - 1 = _
      omega
    rw [hnk, hcl] at c1
    have hk := cnt6_le (fun x => at6 (full l R0) x = at6 (full l R0) a)
    change cls l a ≤ 6 at hk
    have hok := near_ok hl a
    have hnl := near_len l a
    have ht1 := trees_pos hl ha
    have ht2 := trees_bd hl (by omega) a
    have hu := twos_bd hl (by omega) a a b
    have hT : sumL yes (cls l a - 1) (near l a) R0 = treesN l a := rfl
    have hU : (if cls l a - 1 = 0 then 0 else sumL (apart a b) (cls l a - 1 - 1) (near l a) R0) = twosN l a a b := rfl
    have c2 := fun A1 cap1 W (h : Rows 3 int3 (0,0,0) W W.heap.size A1 (near l a).length (near l a)) => sums_any A1 (near l a).length cap1 (near l a) (cls l a - 1) a b W (by omega) (by omega) ha hb hok h
    rw [hT, hU] at c2
    have c3 := fun W => tratio_any (twosN l a a b) (treesN l a) W ht1 (by omega) (by omega) (by omega)
    generalize nearI (full l R0) (at6 (full l R0) a) l len = NI at *
    generalize near l a = P at *
    generalize cls l a - 1 = k at *
    generalize treesN l a = T at *
    generalize twosN l a a b = U at *
    generalize lowN U T = X at *
    generalize lowD U T = Y at *
    have C1 := Lib.hid c1
    have C2 := Lib.hid c2
    have C3 := Lib.hid c3
    clear c1 c2 c3 hx hl h1 h2 hll hfu hnk hcl hk hok hnl ht1 ht2 hu hT hU hab
    go_enter Tryd.func26, Tryd.ntmps26
    go_wp2_with fail
    refine (C1.out _ (by repeat (first | exact Below.refl _ _ | assumption | refine Below.setCell ?_ (by first | (simp; done) | (simp; omega) | omega) _ | refine Below.drew ?_ | refine below_drewN ?_ _ | refine Below.alloc ?_ (by first | (simp; done) | (simp; omega) | omega) _ | refine below_alloc ?_ _ | refine below_step ?_ (by assumption)))).mono ?_
    rintro e w1 ⟨⟨v, u, rfl, ho1, -⟩, hb⟩
    obtain ⟨A1, cap1, rfl, hn1, hn2, hP, -⟩ := own_tapes ho1
    have HP := Lib.hid hP
    clear ho1 hP
    have hB_w1 : Below w.heap.size w w1 := (by repeat (first | exact Below.refl _ _ | assumption | refine Below.setCell ?_ (by first | (simp; done) | (simp; omega) | omega) _ | refine Below.drew ?_ | refine below_drewN ?_ _ | refine Below.alloc ?_ (by first | (simp; done) | (simp; omega) | omega) _ | refine below_alloc ?_ _ | refine below_step ?_ (by assumption))); have hz_w1 := hB_w1.size; have hsw10 : w.heap.size < w1.heap.size := Nat.lt_of_lt_of_le (by first | (simp; done) | (simp; omega) | omega) hb.size; have hnw10 : ¬ w.heap.size = w1.heap.size := (by omega); have hmw10 : ¬ w1.heap.size = w.heap.size := (by omega); have hlw10_0 : w.heap.size ≤ w1.heap.size := (by omega); have hlw10_1 : w.heap.size ≤ w1.heap.size + 1 := (by omega); have hlw10_2 : w.heap.size ≤ w1.heap.size + 1 + 1 := (by omega); have hkw10 : w1.cell? ⟨w.heap.size, 0, none⟩ = some (.int .i64 0) := (by rw [hb.cell (p := ⟨w.heap.size, 0, none⟩) (by first | (simp; done) | (simp; omega) | omega)]; first | (go_simp; done) | assumption); have hfw10 : w1.frozen? ⟨w.heap.size, 0, none⟩ = false := (by rw [hb.frozen (p := ⟨w.heap.size, 0, none⟩) (by first | (simp; done) | (simp; omega) | omega)]; first | (go_simp; done) | assumption); have hkw11 : w1.cell? ⟨w.heap.size, 1, none⟩ = some (.int .i64 0) := (by rw [hb.cell (p := ⟨w.heap.size, 1, none⟩) (by first | (simp; done) | (simp; omega) | omega)]; first | (go_simp; done) | assumption); have hfw11 : w1.frozen? ⟨w.heap.size, 1, none⟩ = false := (by rw [hb.frozen (p := ⟨w.heap.size, 1, none⟩) (by first | (simp; done) | (simp; omega) | omega)]; first | (go_simp; done) | assumption); clear hb
    go_wp2_with fail
    refine (C2.out A1 cap1 _ HP.out).mono ?_
    rintro e w2 ⟨rfl, hb⟩
    clear HP
    have hB_w2 : Below w.heap.size w w2 := (by repeat (first | exact Below.refl _ _ | assumption | refine Below.setCell ?_ (by first | (simp; done) | (simp; omega) | omega) _ | refine Below.drew ?_ | refine below_drewN ?_ _ | refine Below.alloc ?_ (by first | (simp; done) | (simp; omega) | omega) _ | refine below_alloc ?_ _ | refine below_step ?_ (by assumption))); have hz_w2 := hB_w2.size; have hsw20 : w.heap.size < w2.heap.size := Nat.lt_of_lt_of_le (by first | (simp; done) | (simp; omega) | omega) hb.size; have hnw20 : ¬ w.heap.size = w2.heap.size := (by omega); have hmw20 : ¬ w2.heap.size = w.heap.size := (by omega); have hlw20_0 : w.heap.size ≤ w2.heap.size := (by omega); have hlw20_1 : w.heap.size ≤ w2.heap.size + 1 := (by omega); have hlw20_2 : w.heap.size ≤ w2.heap.size + 1 + 1 := (by omega); have hkw20 : w2.cell? ⟨w.heap.size, 0, none⟩ = some (.int .i64 0) := (by rw [hb.cell (p := ⟨w.heap.size, 0, none⟩) (by first | (simp; done) | (simp; omega) | omega)]; first | (go_simp; done) | assumption); have hfw20 : w2.frozen? ⟨w.heap.size, 0, none⟩ = false := (by rw [hb.frozen (p := ⟨w.heap.size, 0, none⟩) (by first | (simp; done) | (simp; omega) | omega)]; first | (go_simp; done) | assumption); have hkw21 : w2.cell? ⟨w.heap.size, 1, none⟩ = some (.int .i64 0) := (by rw [hb.cell (p := ⟨w.heap.size, 1, none⟩) (by first | (simp; done) | (simp; omega) | omega)]; first | (go_simp; done) | assumption); have hfw21 : w2.frozen? ⟨w.heap.size, 1, none⟩ = false := (by rw [hb.frozen (p := ⟨w.heap.size, 1, none⟩) (by first | (simp; done) | (simp; omega) | omega)]; first | (go_simp; done) | assumption); clear hb hB_w1 hlw10_0 hlw10_1 hlw10_2 hkw10 hfw10 hkw11 hfw11
    go_wp2_with fail
    refine (C3.out _).mono ?_
    rintro e w3 ⟨rfl, hb⟩
    have hB_w3 : Below w.heap.size w w3 := (by repeat (first | exact Below.refl _ _ | assumption | refine Below.setCell ?_ (by first | (simp; done) | (simp; omega) | omega) _ | refine Below.drew ?_ | refine below_drewN ?_ _ | refine Below.alloc ?_ (by first | (simp; done) | (simp; omega) | omega) _ | refine below_alloc ?_ _ | refine below_step ?_ (by assumption))); have hz_w3 := hB_w3.size; have hsw30 : w.heap.size < w3.heap.size := Nat.lt_of_lt_of_le (by first | (simp; done) | (simp; omega) | omega) hb.size; have hnw30 : ¬ w.heap.size = w3.heap.size := (by omega); have hmw30 : ¬ w3.heap.size = w.heap.size := (by omega); have hlw30_0 : w.heap.size ≤ w3.heap.size := (by omega); have hlw30_1 : w.heap.size ≤ w3.heap.size + 1 := (by omega); have hlw30_2 : w.heap.size ≤ w3.heap.size + 1 + 1 := (by omega); have hkw30 : w3.cell? ⟨w.heap.size, 0, none⟩ = some (.int .i64 0) := (by rw [hb.cell (p := ⟨w.heap.size, 0, none⟩) (by first | (simp; done) | (simp; omega) | omega)]; first | (go_simp; done) | assumption); have hfw30 : w3.frozen? ⟨w.heap.size, 0, none⟩ = false := (by rw [hb.frozen (p := ⟨w.heap.size, 0, none⟩) (by first | (simp; done) | (simp; omega) | omega)]; first | (go_simp; done) | assumption); have hkw31 : w3.cell? ⟨w.heap.size, 1, none⟩ = some (.int .i64 0) := (by rw [hb.cell (p := ⟨w.heap.size, 1, none⟩) (by first | (simp; done) | (simp; omega) | omega)]; first | (go_simp; done) | assumption); have hfw31 : w3.frozen? ⟨w.heap.size, 1, none⟩ = false := (by rw [hb.frozen (p := ⟨w.heap.size, 1, none⟩) (by first | (simp; done) | (simp; omega) | omega)]; first | (go_simp; done) | assumption); clear hb hB_w2 hlw20_0 hlw20_1 hlw20_2 hkw20 hfw20 hkw21 hfw21
    go_wp2
    exact bodyPost_ret (v := .agg #[.int .i64 X, .int .i64 Y]) (by simp [results, Tryd.results26, go_sem, *]) rfl ⟨rfl, (by repeat (first | exact Below.refl _ _ | assumption | refine Below.setCell ?_ (by first | (simp; done) | (simp; omega) | omega) _ | refine Below.drew ?_ | refine below_drewN ?_ _ | refine Below.alloc ?_ (by first | (simp; done) | (simp; omega) | omega) _ | refine below_alloc ?_ _ | refine below_step ?_ (by assumption)))⟩
def resE (n : Int) (l : List Tp) (a b : Int) : Int := if askE n l [a, b] = 0 then (if jnB l a b then 0 else 8) else askE n l [a, b]
def rsN (n : Int) (l : List Tp) (a b : Int) : Int := if resE n l a b = 0 then resN l a b else 0
def rsD (n : Int) (l : List Tp) (a b : Int) : Int := if resE n l a b = 0 then resD l a b else 0
set_option maxRecDepth 20000 in
set_option maxHeartbeats 4000000 in
theorem Resistance_any (n : Int) (A : Option Addr) (len cap : Nat) (l : List Tp) (a b : Int) (w : World) (hm : len ≤ 9223372036854775807) (hx : Rows 3 int3 (0,0,0) w w.heap.size A len l) :
    Calls Tryd.prog 11 #[.int .i64 n, .slice A len cap, .int .i64 a, .int .i64 b] w fun e w' => e = .returned (.tuple #[.agg #[.int .i64 (rsN n l a b), .int .i64 (rsD n l a b)], .int .i64 (resE n l a b)]) ∧ Below w.heap.size w w' := by
  have c1 := fun W (h : Below w.heap.size w W) => Joined_any n A len cap l a b W hm ((hx.below h).more h.size)
  have hE : resE n l a b = if askE n l [a, b] = 0 then (if jnB l a b then 0 else 8) else askE n l [a, b] := rfl
  have hN : rsN n l a b = if resE n l a b = 0 then resN l a b else 0 := rfl
  have hD : rsD n l a b = if resE n l a b = 0 then resD l a b else 0 := rfl
  have hV : jnV n l a b = (decide (askE n l [a, b] = 0) && jnB l a b) := rfl
  rcases ask_cases n l a b with ⟨h0, hv, ha, hb⟩ | h0
  · obtain ⟨hn, hlen, hl⟩ := vNet_spec hv
    rw [hx.1] at hlen
    rw [h0, decide_eq_true rfl, Bool.true_and] at hV
    rw [h0, if_pos rfl] at hE
    rw [hV, h0] at c1
    cases hj : jnB l a b
    · rw [hj] at hE c1
      change resE n l a b = 8 at hE
      rw [hE, if_neg (by decide)] at hN hD
      rw [hE, hN, hD]
      have C1 := Lib.hid c1
      clear c1 hx hl hE hN hD hV hj h0 hv
      go_enter Tryd.func11, Tryd.ntmps11
      go_wp2_with fail
      refine (C1.out _ (by repeat (first | exact Below.refl _ _ | assumption | refine Below.setCell ?_ (by first | (simp; done) | (simp; omega) | omega) _ | refine Below.drew ?_ | refine below_drewN ?_ _ | refine Below.alloc ?_ (by first | (simp; done) | (simp; omega) | omega) _ | refine below_alloc ?_ _ | refine below_step ?_ (by assumption)))).mono ?_
      rintro e w1 ⟨rfl, hb⟩
      have hB_w1 : Below w.heap.size w w1 := (by repeat (first | exact Below.refl _ _ | assumption | refine Below.setCell ?_ (by first | (simp; done) | (simp; omega) | omega) _ | refine Below.drew ?_ | refine below_drewN ?_ _ | refine Below.alloc ?_ (by first | (simp; done) | (simp; omega) | omega) _ | refine below_alloc ?_ _ | refine below_step ?_ (by assumption))); have hz_w1 := hB_w1.size; have hsw10 : w.heap.size < w1.heap.size := Nat.lt_of_lt_of_le (by first | (simp; done) | (simp; omega) | omega) hb.size; have hnw10 : ¬ w.heap.size = w1.heap.size := (by omega); have hmw10 : ¬ w1.heap.size = w.heap.size := (by omega); have hlw10_0 : w.heap.size ≤ w1.heap.size := (by omega); have hlw10_1 : w.heap.size ≤ w1.heap.size + 1 := (by omega); have hlw10_2 : w.heap.size ≤ w1.heap.size + 1 + 1 := (by omega); have hkw10 : w1.cell? ⟨w.heap.size, 0, none⟩ = some (.int .i64 0) := (by rw [hb.cell (p := ⟨w.heap.size, 0, none⟩) (by first | (simp; done) | (simp; omega) | omega)]; first | (go_simp; done) | assumption); have hfw10 : w1.frozen? ⟨w.heap.size, 0, none⟩ = false := (by rw [hb.frozen (p := ⟨w.heap.size, 0, none⟩) (by first | (simp; done) | (simp; omega) | omega)]; first | (go_simp; done) | assumption); have hkw11 : w1.cell? ⟨w.heap.size, 1, none⟩ = some (.int .i64 0) := (by rw [hb.cell (p := ⟨w.heap.size, 1, none⟩) (by first | (simp; done) | (simp; omega) | omega)]; first | (go_simp; done) | assumption); have hfw11 : w1.frozen? ⟨w.heap.size, 1, none⟩ = false := (by rw [hb.frozen (p := ⟨w.heap.size, 1, none⟩) (by first | (simp; done) | (simp; omega) | omega)]; first | (go_simp; done) | assumption); clear hb
      go_wp2
      exact bodyPost_ret (v := .tuple #[.agg #[.int .i64 0, .int .i64 0], .int .i64 8]) (by simp [results, Tryd.results11, go_sem, *]) rfl ⟨rfl, (by repeat (first | exact Below.refl _ _ | assumption | refine Below.setCell ?_ (by first | (simp; done) | (simp; omega) | omega) _ | refine Below.drew ?_ | refine below_drewN ?_ _ | refine Below.alloc ?_ (by first | (simp; done) | (simp; omega) | omega) _ | refine below_alloc ?_ _ | refine below_step ?_ (by assumption)))⟩
    · rw [hj] at hE c1
      change resE n l a b = 0 at hE
      rw [hE, if_pos rfl] at hN hD
      have c2 := fun W (h : Below w.heap.size w W) => resistance_any A len cap l a b W hlen ha hb hl ((hx.below h).more h.size)
      rw [hE, hN, hD]
      generalize resN l a b = X at *
      generalize resD l a b = Y at *
      have C1 := Lib.hid c1
      have C2 := Lib.hid c2
      clear c1 c2 hx hl hE hN hD hV hj h0 hv
      go_enter Tryd.func11, Tryd.ntmps11
      go_wp2_with fail
      refine (C1.out _ (by repeat (first | exact Below.refl _ _ | assumption | refine Below.setCell ?_ (by first | (simp; done) | (simp; omega) | omega) _ | refine Below.drew ?_ | refine below_drewN ?_ _ | refine Below.alloc ?_ (by first | (simp; done) | (simp; omega) | omega) _ | refine below_alloc ?_ _ | refine below_step ?_ (by assumption)))).mono ?_
      rintro e w1 ⟨rfl, hb⟩
      have hB_w1 : Below w.heap.size w w1 := (by repeat (first | exact Below.refl _ _ | assumption | refine Below.setCell ?_ (by first | (simp; done) | (simp; omega) | omega) _ | refine Below.drew ?_ | refine below_drewN ?_ _ | refine Below.alloc ?_ (by first | (simp; done) | (simp; omega) | omega) _ | refine below_alloc ?_ _ | refine below_step ?_ (by assumption))); have hz_w1 := hB_w1.size; have hsw10 : w.heap.size < w1.heap.size := Nat.lt_of_lt_of_le (by first | (simp; done) | (simp; omega) | omega) hb.size; have hnw10 : ¬ w.heap.size = w1.heap.size := (by omega); have hmw10 : ¬ w1.heap.size = w.heap.size := (by omega); have hlw10_0 : w.heap.size ≤ w1.heap.size := (by omega); have hlw10_1 : w.heap.size ≤ w1.heap.size + 1 := (by omega); have hlw10_2 : w.heap.size ≤ w1.heap.size + 1 + 1 := (by omega); have hkw10 : w1.cell? ⟨w.heap.size, 0, none⟩ = some (.int .i64 0) := (by rw [hb.cell (p := ⟨w.heap.size, 0, none⟩) (by first | (simp; done) | (simp; omega) | omega)]; first | (go_simp; done) | assumption); have hfw10 : w1.frozen? ⟨w.heap.size, 0, none⟩ = false := (by rw [hb.frozen (p := ⟨w.heap.size, 0, none⟩) (by first | (simp; done) | (simp; omega) | omega)]; first | (go_simp; done) | assumption); have hkw11 : w1.cell? ⟨w.heap.size, 1, none⟩ = some (.int .i64 0) := (by rw [hb.cell (p := ⟨w.heap.size, 1, none⟩) (by first | (simp; done) | (simp; omega) | omega)]; first | (go_simp; done) | assumption); have hfw11 : w1.frozen? ⟨w.heap.size, 1, none⟩ = false := (by rw [hb.frozen (p := ⟨w.heap.size, 1, none⟩) (by first | (simp; done) | (simp; omega) | omega)]; first | (go_simp; done) | assumption); clear hb
      go_wp2_with fail
      refine (C2.out _ (by repeat (first | exact Below.refl _ _ | assumption | refine Below.setCell ?_ (by first | (simp; done) | (simp; omega) | omega) _ | refine Below.drew ?_ | refine below_drewN ?_ _ | refine Below.alloc ?_ (by first | (simp; done) | (simp; omega) | omega) _ | refine below_alloc ?_ _ | refine below_step ?_ (by assumption)))).mono ?_
      rintro e w2 ⟨rfl, hb⟩
      have hB_w2 : Below w.heap.size w w2 := (by repeat (first | exact Below.refl _ _ | assumption | refine Below.setCell ?_ (by first | (simp; done) | (simp; omega) | omega) _ | refine Below.drew ?_ | refine below_drewN ?_ _ | refine Below.alloc ?_ (by first | (simp; done) | (simp; omega) | omega) _ | refine below_alloc ?_ _ | refine below_step ?_ (by assumption))); have hz_w2 := hB_w2.size; have hsw20 : w.heap.size < w2.heap.size := Nat.lt_of_lt_of_le (by first | (simp; done) | (simp; omega) | omega) hb.size; have hnw20 : ¬ w.heap.size = w2.heap.size := (by omega); have hmw20 : ¬ w2.heap.size = w.heap.size := (by omega); have hlw20_0 : w.heap.size ≤ w2.heap.size := (by omega); have hlw20_1 : w.heap.size ≤ w2.heap.size + 1 := (by omega); have hlw20_2 : w.heap.size ≤ w2.heap.size + 1 + 1 := (by omega); have hkw20 : w2.cell? ⟨w.heap.size, 0, none⟩ = some (.int .i64 0) := (by rw [hb.cell (p := ⟨w.heap.size, 0, none⟩) (by first | (simp; done) | (simp; omega) | omega)]; first | (go_simp; done) | assumption); have hfw20 : w2.frozen? ⟨w.heap.size, 0, none⟩ = false := (by rw [hb.frozen (p := ⟨w.heap.size, 0, none⟩) (by first | (simp; done) | (simp; omega) | omega)]; first | (go_simp; done) | assumption); have hkw21 : w2.cell? ⟨w.heap.size, 1, none⟩ = some (.int .i64 0) := (by rw [hb.cell (p := ⟨w.heap.size, 1, none⟩) (by first | (simp; done) | (simp; omega) | omega)]; first | (go_simp; done) | assumption); have hfw21 : w2.frozen? ⟨w.heap.size, 1, none⟩ = false := (by rw [hb.frozen (p := ⟨w.heap.size, 1, none⟩) (by first | (simp; done) | (simp; omega) | omega)]; first | (go_simp; done) | assumption); clear hb hB_w1 hlw10_0 hlw10_1 hlw10_2 hkw10 hfw10 hkw11 hfw11
      go_wp2
      exact bodyPost_ret (v := .tuple #[.agg #[.int .i64 X, .int .i64 Y], .int .i64 0]) (by simp [results, Tryd.results11, go_sem, *]) rfl ⟨rfl, (by repeat (first | exact Below.refl _ _ | assumption | refine Below.setCell ?_ (by first | (simp; done) | (simp; omega) | omega) _ | refine Below.drew ?_ | refine below_drewN ?_ _ | refine Below.alloc ?_ (by first | (simp; done) | (simp; omega) | omega) _ | refine below_alloc ?_ _ | refine below_step ?_ (by assumption)))⟩
  · have h0' : (askE n l [a, b] == 0) = false := by simpa using h0
    rw [if_neg h0] at hE
    rw [decide_eq_false h0, Bool.false_and] at hV
    rw [hE, if_neg h0] at hN hD
    rw [hV] at c1
    rw [hE, hN, hD]
    generalize askE n l [a, b] = E at *
    have C1 := Lib.hid c1
    clear c1 hx hE hN hD hV h0
    go_enter Tryd.func11, Tryd.ntmps11
    go_wp2_with fail
    refine (C1.out _ (by repeat (first | exact Below.refl _ _ | assumption | refine Below.setCell ?_ (by first | (simp; done) | (simp; omega) | omega) _ | refine Below.drew ?_ | refine below_drewN ?_ _ | refine Below.alloc ?_ (by first | (simp; done) | (simp; omega) | omega) _ | refine below_alloc ?_ _ | refine below_step ?_ (by assumption)))).mono ?_
    rintro e w1 ⟨rfl, hb⟩
    have hB_w1 : Below w.heap.size w w1 := (by repeat (first | exact Below.refl _ _ | assumption | refine Below.setCell ?_ (by first | (simp; done) | (simp; omega) | omega) _ | refine Below.drew ?_ | refine below_drewN ?_ _ | refine Below.alloc ?_ (by first | (simp; done) | (simp; omega) | omega) _ | refine below_alloc ?_ _ | refine below_step ?_ (by assumption))); have hz_w1 := hB_w1.size; have hsw10 : w.heap.size < w1.heap.size := Nat.lt_of_lt_of_le (by first | (simp; done) | (simp; omega) | omega) hb.size; have hnw10 : ¬ w.heap.size = w1.heap.size := (by omega); have hmw10 : ¬ w1.heap.size = w.heap.size := (by omega); have hlw10_0 : w.heap.size ≤ w1.heap.size := (by omega); have hlw10_1 : w.heap.size ≤ w1.heap.size + 1 := (by omega); have hlw10_2 : w.heap.size ≤ w1.heap.size + 1 + 1 := (by omega); have hkw10 : w1.cell? ⟨w.heap.size, 0, none⟩ = some (.int .i64 0) := (by rw [hb.cell (p := ⟨w.heap.size, 0, none⟩) (by first | (simp; done) | (simp; omega) | omega)]; first | (go_simp; done) | assumption); have hfw10 : w1.frozen? ⟨w.heap.size, 0, none⟩ = false := (by rw [hb.frozen (p := ⟨w.heap.size, 0, none⟩) (by first | (simp; done) | (simp; omega) | omega)]; first | (go_simp; done) | assumption); have hkw11 : w1.cell? ⟨w.heap.size, 1, none⟩ = some (.int .i64 0) := (by rw [hb.cell (p := ⟨w.heap.size, 1, none⟩) (by first | (simp; done) | (simp; omega) | omega)]; first | (go_simp; done) | assumption); have hfw11 : w1.frozen? ⟨w.heap.size, 1, none⟩ = false := (by rw [hb.frozen (p := ⟨w.heap.size, 1, none⟩) (by first | (simp; done) | (simp; omega) | omega)]; first | (go_simp; done) | assumption); clear hb
    go_wp2
    exact bodyPost_ret (v := .tuple #[.agg #[.int .i64 0, .int .i64 0], .int .i64 E]) (by simp [results, Tryd.results11, go_sem, *]) rfl ⟨rfl, (by repeat (first | exact Below.refl _ _ | assumption | refine Below.setCell ?_ (by first | (simp; done) | (simp; omega) | omega) _ | refine Below.drew ?_ | refine below_drewN ?_ _ | refine Below.alloc ?_ (by first | (simp; done) | (simp; omega) | omega) _ | refine below_alloc ?_ _ | refine below_step ?_ (by assumption)))⟩
end Go.Proofs.YthpbkbbmedpecaaDoor
