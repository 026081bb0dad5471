/- Cradles: the program's Walk. -/
import Derived.Test.YtkphkknlenjjhaaWalkC
import Derived.Test.YtkphkknlenjjhaaTackle2
set_option linter.unusedSimpArgs false
set_option linter.unusedVariables false
namespace Go.Proofs.Ytkphkknlenjjhaa
open Go.RowKit
attribute [local go_sem] Later.cell

theorem leastC_spec' (p : Int → Bool) (n : Int) (h : 0 ≤ n) : LSpec p n (leastC p n) := by
  have key : ∀ m : Nat, (∀ a : Int, 0 ≤ a → a < m → p a = false) ∨ ∃ r : Int, 0 ≤ r ∧ r < m ∧ p r = true ∧ ∀ a, 0 ≤ a → a < r → p a = false := by
    intro m
    induction m with
    | zero => exact .inl fun a h1 h2 => absurd h2 (by omega)
    | succ m ih =>
      rcases ih with ih | ⟨r, h1, h2, h3, h4⟩
      · cases hp : p m with
        | true => exact .inr ⟨m, by omega, by omega, hp, fun a h1 h2 => ih a h1 h2⟩
        | false =>
          refine .inl fun a h1 h2 => ?_
          by_cases ha : a = m
          · rw [ha]; exact hp
          · exact ih a h1 (by omega)
      · exact .inr ⟨r, h1, by omega, h3, h4⟩
  have hex : ∃ r, LSpec p n r := by
    rcases key (n + 1).toNat with h1 | ⟨r, h1, h2, h3, h4⟩
    · exact ⟨n + 1, ⟨by omega, by omega⟩, fun a ha hb => h1 a ha (by omega), fun hh => absurd hh (by omega)⟩
    · exact ⟨r, ⟨h1, by omega⟩, h4, fun _ => h3⟩
  unfold leastC
  rw [dif_pos hex]
  exact hex.choose_spec
noncomputable def lowP (span : Int) (xs : List (Int × Int)) (wt lim : Int) : Int := leastC (loP span xs wt lim) span
noncomputable def highP (span : Int) (xs : List (Int × Int)) (wt lim : Int) : Int := leastC (hiP span xs wt lim) span - 1
noncomputable def walkE (span : Int) (xs : List (Int × Int)) (wt lim : Int) : Int :=
  if goodL span xs then (if okLoad wt && okLoad lim then (if highP span xs wt lim < lowP span xs wt lim then 8 else 0) else 7) else 1
noncomputable def walkL (span : Int) (xs : List (Int × Int)) (wt lim : Int) : Int := if walkE span xs wt lim = 0 then lowP span xs wt lim else 0
noncomputable def walkH (span : Int) (xs : List (Int × Int)) (wt lim : Int) : Int := if walkE span xs wt lim = 0 then highP span xs wt lim else 0
theorem loP_mono {span : Int} {xs : List (Int × Int)} {wt lim : Int} (hw : 0 ≤ wt) (n : Int) : ∀ a b, 0 ≤ a → a ≤ b → b ≤ n → loP span xs wt lim a = true → loP span xs wt lim b = true := by
  intro a b _ h _ h2
  have := fstR_mono (span := span) (xs := xs) hw h
  simp only [loP, decide_eq_true_eq] at *
  omega
theorem hiP_mono {span : Int} {xs : List (Int × Int)} {wt lim : Int} (hw : 0 ≤ wt) (n : Int) : ∀ a b, 0 ≤ a → a ≤ b → b ≤ n → hiP span xs wt lim a = true → hiP span xs wt lim b = true := by
  intro a b _ h _ h2
  have := sndR_mono (xs := xs) hw h
  simp only [hiP, decide_eq_true_eq] at *
  omega

set_option maxRecDepth 20000 in
set_option maxHeartbeats 2000000 in
theorem Walk_any (span : Int) (A : Option Addr) (len cap : Nat) (xs : List (Int × Int)) (wt lim : Int) (w : World) (hcap : len ≤ cap ∧ cap ≤ 9223372036854775807) (hx : Pairs w w.heap.size A len xs) :
    Calls Try.prog 12 #[.int .i64 span, .slice A len cap, .int .i64 wt, .int .i64 lim] w fun e w' => e = .returned (.tuple #[.int .i64 (walkL span xs wt lim), .int .i64 (walkH span xs wt lim), .int .i64 (walkE span xs wt lim)]) ∧ Below w.heap.size w w' := by
  have c1 := fun W (h : Below w.heap.size w W) => ValidLoads_any span A len cap xs W (by omega) ((hx.below h).more h.size)
  have hE : walkE span xs wt lim = if goodL span xs then (if okLoad wt && okLoad lim then (if highP span xs wt lim < lowP span xs wt lim then 8 else 0) else 7) else 1 := rfl
  have hL : walkL span xs wt lim = if walkE span xs wt lim = 0 then lowP span xs wt lim else 0 := rfl
  have hH : walkH span xs wt lim = if walkE span xs wt lim = 0 then highP span xs wt lim else 0 := rfl
  by_cases hg : goodL span xs = true
  · rw [if_pos hg] at hE
    rw [hg] at c1
    by_cases ho : (okLoad wt && okLoad lim) = true
    · rw [if_pos ho] at hE
      have ho' := ho
      rw [Bool.and_eq_true] at ho'
      have hw := okLoad_iff.1 ho'.1
      have hl := okLoad_iff.1 ho'.2
      obtain ⟨⟨h1, h2⟩, h3, h4⟩ := goodL_spec hg
      have c2 := fun W (h : Below w.heap.size w W) b1 b2 b3 b4 x1 x2 x3 x4 => least28_any span (some ⟨b1, 0, none⟩) (some ⟨b2, 0, none⟩) (some ⟨b3, 0, none⟩) (some ⟨b4, 0, none⟩) (loP span xs wt lim) W (by omega) h2 (loP_mono hw.1 span)
        (fun a W' ha hb (hW : Below W.heap.size W W') => Walk1_any span A len cap xs wt lim a b1 b2 b3 b4 W' hcap (((hx.below h).below (hW.mono h.size)).more (Nat.le_trans h.size hW.size)) hg hw hl ⟨ha, hb⟩
          ((hW.cell (p := ⟨b1, 0, none⟩) (World.block_lt_of_cell? W _ x1)).trans x1) ((hW.cell (p := ⟨b2, 0, none⟩) (World.block_lt_of_cell? W _ x2)).trans x2) ((hW.cell (p := ⟨b3, 0, none⟩) (World.block_lt_of_cell? W _ x3)).trans x3) ((hW.cell (p := ⟨b4, 0, none⟩) (World.block_lt_of_cell? W _ x4)).trans x4))
      have c3 := fun W (h : Below w.heap.size w W) b1 b2 b3 b4 x1 x2 x3 x4 => least30_any span (some ⟨b1, 0, none⟩) (some ⟨b2, 0, none⟩) (some ⟨b3, 0, none⟩) (some ⟨b4, 0, none⟩) (hiP span xs wt lim) W (by omega) h2 (hiP_mono hw.1 span)
        (fun a W' ha hb (hW : Below W.heap.size W W') => Walk2_any span A len cap xs wt lim a b1 b2 b3 b4 W' hcap (((hx.below h).below (hW.mono h.size)).more (Nat.le_trans h.size hW.size)) hg hw hl ⟨ha, hb⟩
          ((hW.cell (p := ⟨b1, 0, none⟩) (World.block_lt_of_cell? W _ x1)).trans x1) ((hW.cell (p := ⟨b2, 0, none⟩) (World.block_lt_of_cell? W _ x2)).trans x2) ((hW.cell (p := ⟨b3, 0, none⟩) (World.block_lt_of_cell? W _ x3)).trans x3) ((hW.cell (p := ⟨b4, 0, none⟩) (World.block_lt_of_cell? W _ x4)).trans x4))
      have s2 := (leastC_spec' (hiP span xs wt lim) span (by omega)).1
      have s1 := (leastC_spec' (loP span xs wt lim) span (by omega)).1
      have hh : highP span xs wt lim = leastC (hiP span xs wt lim) span - 1 := rfl
      have hlo : lowP span xs wt lim = leastC (loP span xs wt lim) span := rfl
      rw [hh, hlo] at hE
      rw [hlo] at hL
      rw [hh] at hH
      clear hh hlo
      generalize leastC (loP span xs wt lim) span = LO at *
      generalize leastC (hiP span xs wt lim) span = HI at *
      have C1 := Lib.hid c1
      have C2 := Lib.hid c2
      have C3 := Lib.hid c3
      clear c1 c2 c3 hx hg h4 ho'
      by_cases hlt : HI - 1 < LO
      · rw [if_pos hlt] at hE
        rw [hE] at hL hH
        rw [if_neg (by decide)] at hL hH
        rw [hE, hL, hH]
        clear hE hL hH
        go_enter Try.func12, Try.ntmps12
        go_wp2_with fail
        refine (C1.out _ (by repeat (first | exact Below.refl _ _ | assumption | refine Below.setCell ?_ (by first | (simp; done) | (simp; omega) | omega) _ | refine Below.drew ?_ | refine below_drewN ?_ _ | refine Below.alloc ?_ (by first | (simp; done) | (simp; omega) | omega) _ | refine below_alloc ?_ _ | refine below_step ?_ (by assumption)))).mono ?_
        rintro e w1 ⟨rfl, hb⟩
        have hB_w1 : Below w.heap.size w w1 := (by repeat (first | exact Below.refl _ _ | assumption | refine Below.setCell ?_ (by first | (simp; done) | (simp; omega) | omega) _ | refine Below.drew ?_ | refine below_drewN ?_ _ | refine Below.alloc ?_ (by first | (simp; done) | (simp; omega) | omega) _ | refine below_alloc ?_ _ | refine below_step ?_ (by assumption))); have hz_w1 := hB_w1.size; have hsw10 : w.heap.size < w1.heap.size := Nat.lt_of_lt_of_le (by first | (simp; done) | (simp; omega) | omega) hb.size; have hnw10 : ¬ w.heap.size = w1.heap.size := (by omega); have hmw10 : ¬ w1.heap.size = w.heap.size := (by omega); have hlw10_0 : w.heap.size ≤ w1.heap.size := (by omega); have hlw10_1 : w.heap.size ≤ w1.heap.size + 1 := (by omega); have hlw10_2 : w.heap.size ≤ w1.heap.size + 1 + 1 := (by omega); have hkw10 : w1.cell? ⟨w.heap.size, 0, none⟩ = some (.int .i64 span) := (by rw [hb.cell (p := ⟨w.heap.size, 0, none⟩) (by first | (simp; done) | (simp; omega) | omega)]; first | (go_simp; done) | assumption); have hsw11 : w.heap.size + 1 < w1.heap.size := Nat.lt_of_lt_of_le (by first | (simp; done) | (simp; omega) | omega) hb.size; have hnw11 : ¬ w.heap.size + 1 = w1.heap.size := (by omega); have hmw11 : ¬ w1.heap.size = w.heap.size + 1 := (by omega); have hlw11_0 : w.heap.size + 1 ≤ w1.heap.size := (by omega); have hlw11_1 : w.heap.size + 1 ≤ w1.heap.size + 1 := (by omega); have hlw11_2 : w.heap.size + 1 ≤ w1.heap.size + 1 + 1 := (by omega); have hkw11 : w1.cell? ⟨w.heap.size + 1, 0, none⟩ = some (.slice A len cap) := (by rw [hb.cell (p := ⟨w.heap.size + 1, 0, none⟩) (by first | (simp; done) | (simp; omega) | omega)]; first | (go_simp; done) | assumption); have hsw12 : w.heap.size + 2 < w1.heap.size := Nat.lt_of_lt_of_le (by first | (simp; done) | (simp; omega) | omega) hb.size; have hnw12 : ¬ w.heap.size + 2 = w1.heap.size := (by omega); have hmw12 : ¬ w1.heap.size = w.heap.size + 2 := (by omega); have hlw12_0 : w.heap.size + 2 ≤ w1.heap.size := (by omega); have hlw12_1 : w.heap.size + 2 ≤ w1.heap.size + 1 := (by omega); have hlw12_2 : w.heap.size + 2 ≤ w1.heap.size + 1 + 1 := (by omega); have hkw12 : w1.cell? ⟨w.heap.size + 2, 0, none⟩ = some (.int .i64 wt) := (by rw [hb.cell (p := ⟨w.heap.size + 2, 0, none⟩) (by first | (simp; done) | (simp; omega) | omega)]; first | (go_simp; done) | assumption); have hsw13 : w.heap.size + 3 < w1.heap.size := Nat.lt_of_lt_of_le (by first | (simp; done) | (simp; omega) | omega) hb.size; have hnw13 : ¬ w.heap.size + 3 = w1.heap.size := (by omega); have hmw13 : ¬ w1.heap.size = w.heap.size + 3 := (by omega); have hlw13_0 : w.heap.size + 3 ≤ w1.heap.size := (by omega); have hlw13_1 : w.heap.size + 3 ≤ w1.heap.size + 1 := (by omega); have hlw13_2 : w.heap.size + 3 ≤ w1.heap.size + 1 + 1 := (by omega); have hkw13 : w1.cell? ⟨w.heap.size + 3, 0, none⟩ = some (.int .i64 lim) := (by rw [hb.cell (p := ⟨w.heap.size + 3, 0, none⟩) (by first | (simp; done) | (simp; omega) | omega)]; first | (go_simp; done) | assumption); clear hb
        go_wp2_with (go_at_call 18; refine (loads2_any _ _ _ _).mono ?_; rintro e w' ⟨rfl, rfl⟩)
        refine (C2.out _ (by repeat (first | exact Below.refl _ _ | assumption | refine Below.setCell ?_ (by first | (simp; done) | (simp; omega) | omega) _ | refine Below.drew ?_ | refine below_drewN ?_ _ | refine Below.alloc ?_ (by first | (simp; done) | (simp; omega) | omega) _ | refine below_alloc ?_ _ | refine below_step ?_ (by assumption))) w.heap.size (w.heap.size + 1) (w.heap.size + 2) (w.heap.size + 3) (by go_simp) (by go_simp) (by go_simp) (by go_simp)).mono ?_
        rintro e w2 ⟨rfl, hb⟩
        have hB_w2 : Below w.heap.size w w2 := (by repeat (first | exact Below.refl _ _ | assumption | refine Below.setCell ?_ (by first | (simp; done) | (simp; omega) | omega) _ | refine Below.drew ?_ | refine below_drewN ?_ _ | refine Below.alloc ?_ (by first | (simp; done) | (simp; omega) | omega) _ | refine below_alloc ?_ _ | refine below_step ?_ (by assumption))); have hz_w2 := hB_w2.size; have hsw20 : w.heap.size < w2.heap.size := Nat.lt_of_lt_of_le (by first | (simp; done) | (simp; omega) | omega) hb.size; have hnw20 : ¬ w.heap.size = w2.heap.size := (by omega); have hmw20 : ¬ w2.heap.size = w.heap.size := (by omega); have hlw20_0 : w.heap.size ≤ w2.heap.size := (by omega); have hlw20_1 : w.heap.size ≤ w2.heap.size + 1 := (by omega); have hlw20_2 : w.heap.size ≤ w2.heap.size + 1 + 1 := (by omega); have hkw20 : w2.cell? ⟨w.heap.size, 0, none⟩ = some (.int .i64 span) := (by rw [hb.cell (p := ⟨w.heap.size, 0, none⟩) (by first | (simp; done) | (simp; omega) | omega)]; first | (go_simp; done) | assumption); have hsw21 : w.heap.size + 1 < w2.heap.size := Nat.lt_of_lt_of_le (by first | (simp; done) | (simp; omega) | omega) hb.size; have hnw21 : ¬ w.heap.size + 1 = w2.heap.size := (by omega); have hmw21 : ¬ w2.heap.size = w.heap.size + 1 := (by omega); have hlw21_0 : w.heap.size + 1 ≤ w2.heap.size := (by omega); have hlw21_1 : w.heap.size + 1 ≤ w2.heap.size + 1 := (by omega); have hlw21_2 : w.heap.size + 1 ≤ w2.heap.size + 1 + 1 := (by omega); have hkw21 : w2.cell? ⟨w.heap.size + 1, 0, none⟩ = some (.slice A len cap) := (by rw [hb.cell (p := ⟨w.heap.size + 1, 0, none⟩) (by first | (simp; done) | (simp; omega) | omega)]; first | (go_simp; done) | assumption); have hsw22 : w.heap.size + 2 < w2.heap.size := Nat.lt_of_lt_of_le (by first | (simp; done) | (simp; omega) | omega) hb.size; have hnw22 : ¬ w.heap.size + 2 = w2.heap.size := (by omega); have hmw22 : ¬ w2.heap.size = w.heap.size + 2 := (by omega); have hlw22_0 : w.heap.size + 2 ≤ w2.heap.size := (by omega); have hlw22_1 : w.heap.size + 2 ≤ w2.heap.size + 1 := (by omega); have hlw22_2 : w.heap.size + 2 ≤ w2.heap.size + 1 + 1 := (by omega); have hkw22 : w2.cell? ⟨w.heap.size + 2, 0, none⟩ = some (.int .i64 wt) := (by rw [hb.cell (p := ⟨w.heap.size + 2, 0, none⟩) (by first | (simp; done) | (simp; omega) | omega)]; first | (go_simp; done) | assumption); have hsw23 : w.heap.size + 3 < w2.heap.size := Nat.lt_of_lt_of_le (by first | (simp; done) | (simp; omega) | omega) hb.size; have hnw23 : ¬ w.heap.size + 3 = w2.heap.size := (by omega); have hmw23 : ¬ w2.heap.size = w.heap.size + 3 := (by omega); have hlw23_0 : w.heap.size + 3 ≤ w2.heap.size := (by omega); have hlw23_1 : w.heap.size + 3 ≤ w2.heap.size + 1 := (by omega); have hlw23_2 : w.heap.size + 3 ≤ w2.heap.size + 1 + 1 := (by omega); have hkw23 : w2.cell? ⟨w.heap.size + 3, 0, none⟩ = some (.int .i64 lim) := (by rw [hb.cell (p := ⟨w.heap.size + 3, 0, none⟩) (by first | (simp; done) | (simp; omega) | omega)]; first | (go_simp; done) | assumption); clear hb hB_w1 hlw10_0 hlw10_1 hlw10_2 hkw10 hlw11_0 hlw11_1 hlw11_2 hkw11 hlw12_0 hlw12_1 hlw12_2 hkw12 hlw13_0 hlw13_1 hlw13_2 hkw13
        go_wp2_with fail
        refine (C3.out _ (by repeat (first | exact Below.refl _ _ | assumption | refine Below.setCell ?_ (by first | (simp; done) | (simp; omega) | omega) _ | refine Below.drew ?_ | refine below_drewN ?_ _ | refine Below.alloc ?_ (by first | (simp; done) | (simp; omega) | omega) _ | refine below_alloc ?_ _ | refine below_step ?_ (by assumption))) w.heap.size (w.heap.size + 1) (w.heap.size + 2) (w.heap.size + 3) (by go_simp) (by go_simp) (by go_simp) (by go_simp)).mono ?_
        rintro e w3 ⟨rfl, hb⟩
        have hB_w3 : Below w.heap.size w w3 := (by repeat (first | exact Below.refl _ _ | assumption | refine Below.setCell ?_ (by first | (simp; done) | (simp; omega) | omega) _ | refine Below.drew ?_ | refine below_drewN ?_ _ | refine Below.alloc ?_ (by first | (simp; done) | (simp; omega) | omega) _ | refine below_alloc ?_ _ | refine below_step ?_ (by assumption))); have hz_w3 := hB_w3.size; clear hb hB_w2 hlw20_0 hlw20_1 hlw20_2 hkw20 hlw21_0 hlw21_1 hlw21_2 hkw21 hlw22_0 hlw22_1 hlw22_2 hkw22 hlw23_0 hlw23_1 hlw23_2 hkw23
        go_wp2
        go_ret3
        exact ⟨rfl, (by repeat (first | exact Below.refl _ _ | assumption | refine Below.setCell ?_ (by first | (simp; done) | (simp; omega) | omega) _ | refine Below.drew ?_ | refine below_drewN ?_ _ | refine Below.alloc ?_ (by first | (simp; done) | (simp; omega) | omega) _ | refine below_alloc ?_ _ | refine below_step ?_ (by assumption)))⟩
      · rw [if_neg hlt] at hE
        rw [hE] at hL hH
        rw [if_pos rfl] at hL hH
        rw [hE, hL, hH]
        clear hE hL hH
        go_enter Try.func12, Try.ntmps12
        go_wp2_with fail
        refine (C1.out _ (by repeat (first | exact Below.refl _ _ | assumption | refine Below.setCell ?_ (by first | (simp; done) | (simp; omega) | omega) _ | refine Below.drew ?_ | refine below_drewN ?_ _ | refine Below.alloc ?_ (by first | (simp; done) | (simp; omega) | omega) _ | refine below_alloc ?_ _ | refine below_step ?_ (by assumption)))).mono ?_
        rintro e w1 ⟨rfl, hb⟩
        have hB_w1 : Below w.heap.size w w1 := (by repeat (first | exact Below.refl _ _ | assumption | refine Below.setCell ?_ (by first | (simp; done) | (simp; omega) | omega) _ | refine Below.drew ?_ | refine below_drewN ?_ _ | refine Below.alloc ?_ (by first | (simp; done) | (simp; omega) | omega) _ | refine below_alloc ?_ _ | refine below_step ?_ (by assumption))); have hz_w1 := hB_w1.size; have hsw10 : w.heap.size < w1.heap.size := Nat.lt_of_lt_of_le (by first | (simp; done) | (simp; omega) | omega) hb.size; have hnw10 : ¬ w.heap.size = w1.heap.size := (by omega); have hmw10 : ¬ w1.heap.size = w.heap.size := (by omega); have hlw10_0 : w.heap.size ≤ w1.heap.size := (by omega); have hlw10_1 : w.heap.size ≤ w1.heap.size + 1 := (by omega); have hlw10_2 : w.heap.size ≤ w1.heap.size + 1 + 1 := (by omega); have hkw10 : w1.cell? ⟨w.heap.size, 0, none⟩ = some (.int .i64 span) := (by rw [hb.cell (p := ⟨w.heap.size, 0, none⟩) (by first | (simp; done) | (simp; omega) | omega)]; first | (go_simp; done) | assumption); have hsw11 : w.heap.size + 1 < w1.heap.size := Nat.lt_of_lt_of_le (by first | (simp; done) | (simp; omega) | omega) hb.size; have hnw11 : ¬ w.heap.size + 1 = w1.heap.size := (by omega); have hmw11 : ¬ w1.heap.size = w.heap.size + 1 := (by omega); have hlw11_0 : w.heap.size + 1 ≤ w1.heap.size := (by omega); have hlw11_1 : w.heap.size + 1 ≤ w1.heap.size + 1 := (by omega); have hlw11_2 : w.heap.size + 1 ≤ w1.heap.size + 1 + 1 := (by omega); have hkw11 : w1.cell? ⟨w.heap.size + 1, 0, none⟩ = some (.slice A len cap) := (by rw [hb.cell (p := ⟨w.heap.size + 1, 0, none⟩) (by first | (simp; done) | (simp; omega) | omega)]; first | (go_simp; done) | assumption); have hsw12 : w.heap.size + 2 < w1.heap.size := Nat.lt_of_lt_of_le (by first | (simp; done) | (simp; omega) | omega) hb.size; have hnw12 : ¬ w.heap.size + 2 = w1.heap.size := (by omega); have hmw12 : ¬ w1.heap.size = w.heap.size + 2 := (by omega); have hlw12_0 : w.heap.size + 2 ≤ w1.heap.size := (by omega); have hlw12_1 : w.heap.size + 2 ≤ w1.heap.size + 1 := (by omega); have hlw12_2 : w.heap.size + 2 ≤ w1.heap.size + 1 + 1 := (by omega); have hkw12 : w1.cell? ⟨w.heap.size + 2, 0, none⟩ = some (.int .i64 wt) := (by rw [hb.cell (p := ⟨w.heap.size + 2, 0, none⟩) (by first | (simp; done) | (simp; omega) | omega)]; first | (go_simp; done) | assumption); have hsw13 : w.heap.size + 3 < w1.heap.size := Nat.lt_of_lt_of_le (by first | (simp; done) | (simp; omega) | omega) hb.size; have hnw13 : ¬ w.heap.size + 3 = w1.heap.size := (by omega); have hmw13 : ¬ w1.heap.size = w.heap.size + 3 := (by omega); have hlw13_0 : w.heap.size + 3 ≤ w1.heap.size := (by omega); have hlw13_1 : w.heap.size + 3 ≤ w1.heap.size + 1 := (by omega); have hlw13_2 : w.heap.size + 3 ≤ w1.heap.size + 1 + 1 := (by omega); have hkw13 : w1.cell? ⟨w.heap.size + 3, 0, none⟩ = some (.int .i64 lim) := (by rw [hb.cell (p := ⟨w.heap.size + 3, 0, none⟩) (by first | (simp; done) | (simp; omega) | omega)]; first | (go_simp; done) | assumption); clear hb
        go_wp2_with (go_at_call 18; refine (loads2_any _ _ _ _).mono ?_; rintro e w' ⟨rfl, rfl⟩)
        refine (C2.out _ (by repeat (first | exact Below.refl _ _ | assumption | refine Below.setCell ?_ (by first | (simp; done) | (simp; omega) | omega) _ | refine Below.drew ?_ | refine below_drewN ?_ _ | refine Below.alloc ?_ (by first | (simp; done) | (simp; omega) | omega) _ | refine below_alloc ?_ _ | refine below_step ?_ (by assumption))) w.heap.size (w.heap.size + 1) (w.heap.size + 2) (w.heap.size + 3) (by go_simp) (by go_simp) (by go_simp) (by go_simp)).mono ?_
        rintro e w2 ⟨rfl, hb⟩
        have hB_w2 : Below w.heap.size w w2 := (by repeat (first | exact Below.refl _ _ | assumption | refine Below.setCell ?_ (by first | (simp; done) | (simp; omega) | omega) _ | refine Below.drew ?_ | refine below_drewN ?_ _ | refine Below.alloc ?_ (by first | (simp; done) | (simp; omega) | omega) _ | refine below_alloc ?_ _ | refine below_step ?_ (by assumption))); have hz_w2 := hB_w2.size; have hsw20 : w.heap.size < w2.heap.size := Nat.lt_of_lt_of_le (by first | (simp; done) | (simp; omega) | omega) hb.size; have hnw20 : ¬ w.heap.size = w2.heap.size := (by omega); have hmw20 : ¬ w2.heap.size = w.heap.size := (by omega); have hlw20_0 : w.heap.size ≤ w2.heap.size := (by omega); have hlw20_1 : w.heap.size ≤ w2.heap.size + 1 := (by omega); have hlw20_2 : w.heap.size ≤ w2.heap.size + 1 + 1 := (by omega); have hkw20 : w2.cell? ⟨w.heap.size, 0, none⟩ = some (.int .i64 span) := (by rw [hb.cell (p := ⟨w.heap.size, 0, none⟩) (by first | (simp; done) | (simp; omega) | omega)]; first | (go_simp; done) | assumption); have hsw21 : w.heap.size + 1 < w2.heap.size := Nat.lt_of_lt_of_le (by first | (simp; done) | (simp; omega) | omega) hb.size; have hnw21 : ¬ w.heap.size + 1 = w2.heap.size := (by omega); have hmw21 : ¬ w2.heap.size = w.heap.size + 1 := (by omega); have hlw21_0 : w.heap.size + 1 ≤ w2.heap.size := (by omega); have hlw21_1 : w.heap.size + 1 ≤ w2.heap.size + 1 := (by omega); have hlw21_2 : w.heap.size + 1 ≤ w2.heap.size + 1 + 1 := (by omega); have hkw21 : w2.cell? ⟨w.heap.size + 1, 0, none⟩ = some (.slice A len cap) := (by rw [hb.cell (p := ⟨w.heap.size + 1, 0, none⟩) (by first | (simp; done) | (simp; omega) | omega)]; first | (go_simp; done) | assumption); have hsw22 : w.heap.size + 2 < w2.heap.size := Nat.lt_of_lt_of_le (by first | (simp; done) | (simp; omega) | omega) hb.size; have hnw22 : ¬ w.heap.size + 2 = w2.heap.size := (by omega); have hmw22 : ¬ w2.heap.size = w.heap.size + 2 := (by omega); have hlw22_0 : w.heap.size + 2 ≤ w2.heap.size := (by omega); have hlw22_1 : w.heap.size + 2 ≤ w2.heap.size + 1 := (by omega); have hlw22_2 : w.heap.size + 2 ≤ w2.heap.size + 1 + 1 := (by omega); have hkw22 : w2.cell? ⟨w.heap.size + 2, 0, none⟩ = some (.int .i64 wt) := (by rw [hb.cell (p := ⟨w.heap.size + 2, 0, none⟩) (by first | (simp; done) | (simp; omega) | omega)]; first | (go_simp; done) | assumption); have hsw23 : w.heap.size + 3 < w2.heap.size := Nat.lt_of_lt_of_le (by first | (simp; done) | (simp; omega) | omega) hb.size; have hnw23 : ¬ w.heap.size + 3 = w2.heap.size := (by omega); have hmw23 : ¬ w2.heap.size = w.heap.size + 3 := (by omega); have hlw23_0 : w.heap.size + 3 ≤ w2.heap.size := (by omega); have hlw23_1 : w.heap.size + 3 ≤ w2.heap.size + 1 := (by omega); have hlw23_2 : w.heap.size + 3 ≤ w2.heap.size + 1 + 1 := (by omega); have hkw23 : w2.cell? ⟨w.heap.size + 3, 0, none⟩ = some (.int .i64 lim) := (by rw [hb.cell (p := ⟨w.heap.size + 3, 0, none⟩) (by first | (simp; done) | (simp; omega) | omega)]; first | (go_simp; done) | assumption); clear hb hB_w1 hlw10_0 hlw10_1 hlw10_2 hkw10 hlw11_0 hlw11_1 hlw11_2 hkw11 hlw12_0 hlw12_1 hlw12_2 hkw12 hlw13_0 hlw13_1 hlw13_2 hkw13
        go_wp2_with fail
        refine (C3.out _ (by repeat (first | exact Below.refl _ _ | assumption | refine Below.setCell ?_ (by first | (simp; done) | (simp; omega) | omega) _ | refine Below.drew ?_ | refine below_drewN ?_ _ | refine Below.alloc ?_ (by first | (simp; done) | (simp; omega) | omega) _ | refine below_alloc ?_ _ | refine below_step ?_ (by assumption))) w.heap.size (w.heap.size + 1) (w.heap.size + 2) (w.heap.size + 3) (by go_simp) (by go_simp) (by go_simp) (by go_simp)).mono ?_
        rintro e w3 ⟨rfl, hb⟩
        have hB_w3 : Below w.heap.size w w3 := (by repeat (first | exact Below.refl _ _ | assumption | refine Below.setCell ?_ (by first | (simp; done) | (simp; omega) | omega) _ | refine Below.drew ?_ | refine below_drewN ?_ _ | refine Below.alloc ?_ (by first | (simp; done) | (simp; omega) | omega) _ | refine below_alloc ?_ _ | refine below_step ?_ (by assumption))); have hz_w3 := hB_w3.size; clear hb hB_w2 hlw20_0 hlw20_1 hlw20_2 hkw20 hlw21_0 hlw21_1 hlw21_2 hkw21 hlw22_0 hlw22_1 hlw22_2 hkw22 hlw23_0 hlw23_1 hlw23_2 hkw23
        go_wp2
        go_ret3
        exact ⟨rfl, (by repeat (first | exact Below.refl _ _ | assumption | refine Below.setCell ?_ (by first | (simp; done) | (simp; omega) | omega) _ | refine Below.drew ?_ | refine below_drewN ?_ _ | refine Below.alloc ?_ (by first | (simp; done) | (simp; omega) | omega) _ | refine below_alloc ?_ _ | refine below_step ?_ (by assumption)))⟩
    · rw [if_neg ho] at hE
      rw [hE] at hL hH
      rw [if_neg (by decide)] at hL hH
      rw [hE, hL, hH]
      have ho' : (okLoad wt && okLoad lim) = false := by simpa using ho
      have C1 := Lib.hid c1
      clear c1 hx hE hL hH hg ho
      go_enter Try.func12, Try.ntmps12
      go_wp2_with fail
      refine (C1.out _ (by repeat (first | exact Below.refl _ _ | assumption | refine Below.setCell ?_ (by first | (simp; done) | (simp; omega) | omega) _ | refine Below.drew ?_ | refine below_drewN ?_ _ | refine Below.alloc ?_ (by first | (simp; done) | (simp; omega) | omega) _ | refine below_alloc ?_ _ | refine below_step ?_ (by assumption)))).mono ?_
      rintro e w1 ⟨rfl, hb⟩
      have hB_w1 : Below w.heap.size w w1 := (by repeat (first | exact Below.refl _ _ | assumption | refine Below.setCell ?_ (by first | (simp; done) | (simp; omega) | omega) _ | refine Below.drew ?_ | refine below_drewN ?_ _ | refine Below.alloc ?_ (by first | (simp; done) | (simp; omega) | omega) _ | refine below_alloc ?_ _ | refine below_step ?_ (by assumption))); have hz_w1 := hB_w1.size; have hsw10 : w.heap.size < w1.heap.size := Nat.lt_of_lt_of_le (by first | (simp; done) | (simp; omega) | omega) hb.size; have hnw10 : ¬ w.heap.size = w1.heap.size := (by omega); have hmw10 : ¬ w1.heap.size = w.heap.size := (by omega); have hlw10_0 : w.heap.size ≤ w1.heap.size := (by omega); have hlw10_1 : w.heap.size ≤ w1.heap.size + 1 := (by omega); have hlw10_2 : w.heap.size ≤ w1.heap.size + 1 + 1 := (by omega); have hkw10 : w1.cell? ⟨w.heap.size, 0, none⟩ = some (.int .i64 span) := (by rw [hb.cell (p := ⟨w.heap.size, 0, none⟩) (by first | (simp; done) | (simp; omega) | omega)]; first | (go_simp; done) | assumption); have hsw11 : w.heap.size + 1 < w1.heap.size := Nat.lt_of_lt_of_le (by first | (simp; done) | (simp; omega) | omega) hb.size; have hnw11 : ¬ w.heap.size + 1 = w1.heap.size := (by omega); have hmw11 : ¬ w1.heap.size = w.heap.size + 1 := (by omega); have hlw11_0 : w.heap.size + 1 ≤ w1.heap.size := (by omega); have hlw11_1 : w.heap.size + 1 ≤ w1.heap.size + 1 := (by omega); have hlw11_2 : w.heap.size + 1 ≤ w1.heap.size + 1 + 1 := (by omega); have hkw11 : w1.cell? ⟨w.heap.size + 1, 0, none⟩ = some (.slice A len cap) := (by rw [hb.cell (p := ⟨w.heap.size + 1, 0, none⟩) (by first | (simp; done) | (simp; omega) | omega)]; first | (go_simp; done) | assumption); have hsw12 : w.heap.size + 2 < w1.heap.size := Nat.lt_of_lt_of_le (by first | (simp; done) | (simp; omega) | omega) hb.size; have hnw12 : ¬ w.heap.size + 2 = w1.heap.size := (by omega); have hmw12 : ¬ w1.heap.size = w.heap.size + 2 := (by omega); have hlw12_0 : w.heap.size + 2 ≤ w1.heap.size := (by omega); have hlw12_1 : w.heap.size + 2 ≤ w1.heap.size + 1 := (by omega); have hlw12_2 : w.heap.size + 2 ≤ w1.heap.size + 1 + 1 := (by omega); have hkw12 : w1.cell? ⟨w.heap.size + 2, 0, none⟩ = some (.int .i64 wt) := (by rw [hb.cell (p := ⟨w.heap.size + 2, 0, none⟩) (by first | (simp; done) | (simp; omega) | omega)]; first | (go_simp; done) | assumption); have hsw13 : w.heap.size + 3 < w1.heap.size := Nat.lt_of_lt_of_le (by first | (simp; done) | (simp; omega) | omega) hb.size; have hnw13 : ¬ w.heap.size + 3 = w1.heap.size := (by omega); have hmw13 : ¬ w1.heap.size = w.heap.size + 3 := (by omega); have hlw13_0 : w.heap.size + 3 ≤ w1.heap.size := (by omega); have hlw13_1 : w.heap.size + 3 ≤ w1.heap.size + 1 := (by omega); have hlw13_2 : w.heap.size + 3 ≤ w1.heap.size + 1 + 1 := (by omega); have hkw13 : w1.cell? ⟨w.heap.size + 3, 0, none⟩ = some (.int .i64 lim) := (by rw [hb.cell (p := ⟨w.heap.size + 3, 0, none⟩) (by first | (simp; done) | (simp; omega) | omega)]; first | (go_simp; done) | assumption); clear hb
      go_wp2_with (go_at_call 18; refine (loads2_any _ _ _ _).mono ?_; rintro e w' ⟨rfl, rfl⟩)
      go_ret3
      exact ⟨rfl, (by repeat (first | exact Below.refl _ _ | assumption | refine Below.setCell ?_ (by first | (simp; done) | (simp; omega) | omega) _ | refine Below.drew ?_ | refine below_drewN ?_ _ | refine Below.alloc ?_ (by first | (simp; done) | (simp; omega) | omega) _ | refine below_alloc ?_ _ | refine below_step ?_ (by assumption)))⟩
  · rw [if_neg hg] at hE
    rw [hE] at hL hH
    rw [if_neg (by decide)] at hL hH
    have hg' : goodL span xs = false := by simpa using hg
    rw [hg'] at c1
    rw [hE, hL, hH]
    have C1 := Lib.hid c1
    clear c1 hx hE hL hH hg hg'
    go_enter Try.func12, Try.ntmps12
    go_wp2_with fail
    refine (C1.out _ (by repeat (first | exact Below.refl _ _ | assumption | refine Below.setCell ?_ (by first | (simp; done) | (simp; omega) | omega) _ | refine Below.drew ?_ | refine below_drewN ?_ _ | refine Below.alloc ?_ (by first | (simp; done) | (simp; omega) | omega) _ | refine below_alloc ?_ _ | refine below_step ?_ (by assumption)))).mono ?_
    rintro e w1 ⟨rfl, hb⟩
    have hB_w1 : Below w.heap.size w w1 := (by repeat (first | exact Below.refl _ _ | assumption | refine Below.setCell ?_ (by first | (simp; done) | (simp; omega) | omega) _ | refine Below.drew ?_ | refine below_drewN ?_ _ | refine Below.alloc ?_ (by first | (simp; done) | (simp; omega) | omega) _ | refine below_alloc ?_ _ | refine below_step ?_ (by assumption))); have hz_w1 := hB_w1.size; clear hb
    go_wp2
    go_ret3
    exact ⟨rfl, (by repeat (first | exact Below.refl _ _ | assumption | refine Below.setCell ?_ (by first | (simp; done) | (simp; omega) | omega) _ | refine Below.drew ?_ | refine below_drewN ?_ _ | refine Below.alloc ?_ (by first | (simp; done) | (simp; omega) | omega) _ | refine below_alloc ?_ _ | refine below_step ?_ (by assumption)))⟩
end Go.Proofs.Ytkphkknlenjjhaa
