/- Ropes: Retires of the program and of the reference. -/
import Derived.Test.YthninhkimhnegaaWear4
import Derived.Test.YthninhkimhnegaaLeast
set_option linter.unusedSimpArgs false
set_option linter.unusedVariables false
namespace Go.Proofs.Ythninhkimhnegaa
open Go.RowKit
attribute [local go_sem] Later.cell

theorem lsumD_mono {s a b : Int} {us : List (Int × Int)} (hs : 1 ≤ s) (hab : a ≤ b) (hu : ∀ k, k < us.length → (0 ≤ (us[k]?.getD (0,0)).1 ∧ (us[k]?.getD (0,0)).1 ≤ 100000) ∧ 0 ≤ (us[k]?.getD (0,0)).2 ∧ (us[k]?.getD (0,0)).2 ≤ 1000000) : ∀ k, k ≤ us.length → lsumD s a (us.take k) ≤ lsumD s b (us.take k) := by
  intro k
  induction k with
  | zero => intro _; simp [lsumD]
  | succ k ih =>
    intro h
    have := ih (by omega)
    have h2 := hu k (by omega)
    have h3 := cst_bd hs h2.2.1 h2.2.2
    rw [take_sn (by omega), lsumD_snoc, lsumD_snoc]
    split <;> split <;> omega
theorem leftR_mono {s d l a b : Int} {us : List (Int × Int)} (hr : goodR s d l = true) (hu : goodU us = true) (ha : 0 ≤ a) (hab : a ≤ b) : leftR s d us b ≤ leftR s d us a := by
  obtain ⟨⟨r1, r2⟩, ⟨r3, r4⟩, r5, r6⟩ := goodR_spec hr
  obtain ⟨u1, u2, u3⟩ := goodU_spec hu
  have h1 := lsumD_mono r1 hab u2 us.length (Nat.le_refl _)
  rw [List.take_length] at h1
  have h2 : d * a ≤ d * b := Int.mul_le_mul_of_nonneg_left hab r3
  unfold leftR
  omega
/-- Too little is left on a day. -/
def gone (s d l : Int) (us : List (Int × Int)) (day : Int) : Bool := decide (leftR s d us day < l)
theorem gone_mono {s d l : Int} {us : List (Int × Int)} (hr : goodR s d l = true) (hu : goodU us = true) (n : Int) : ∀ a b, 0 ≤ a → a ≤ b → b ≤ n → gone s d l us a = true → gone s d l us b = true := by
  intro a b h1 h2 _ h3
  have := leftR_mono hr hu h1 h2
  simp only [gone, decide_eq_true_eq] at *
  omega
noncomputable def retE (s d l : Int) (us : List (Int × Int)) : Int := if askR s d l us 0 = 0 then (if leastC (gone s d l us) 100000 ≤ 100000 then 0 else 8) else askR s d l us 0
noncomputable def retV (s d l : Int) (us : List (Int × Int)) : Int := if askR s d l us 0 = 0 then (if leastC (gone s d l us) 100000 ≤ 100000 then leastC (gone s d l us) 100000 else 0) else 0

theorem Retires1_any (s d l : Int) (A : Option Addr) (len cap : Nat) (us : List (Int × Int)) (day : Int) (bx br : Nat) (w : World) (hm : len ≤ cap ∧ cap ≤ 9223372036854775807) (hx : Pairs w w.heap.size A len us)
    (hr : goodR s d l = true) (hu : goodU us = true) (h0 : 0 ≤ day) (h1 : day ≤ 100000)
    (x0 : w.cell? ⟨bx, 0, none⟩ = some (.int .i64 s)) (x1 : w.cell? ⟨bx, 1, none⟩ = some (.int .i64 d)) (x2 : w.cell? ⟨bx, 2, none⟩ = some (.int .i64 l)) (x3 : w.cell? ⟨bx, 3, none⟩ = some (.slice A len cap)) (r2 : w.cell? ⟨br, 2, none⟩ = some (.int .i64 l)) :
    Calls Try.prog 88 #[.int .i64 day, .pointer (some ⟨bx, 0, none⟩), .pointer (some ⟨br, 0, none⟩)] w fun e w' => e = .returned (.bool (gone s d l us day)) ∧ Below w.heap.size w w' := by
  have c1 := fun W (h : Below w.heap.size w W) => left_any s d l A len cap us day W hm ((hx.below h).more h.size) hr hu h0 h1
  have hlx : bx < w.heap.size := World.block_lt_of_cell? w _ x0
  have hlr : br < w.heap.size := World.block_lt_of_cell? w _ r2
  have hg : gone s d l us day = decide (leftR s d us day < l) := rfl
  rw [hg]
  generalize leftR s d us day = L at *
  have C1 := Lib.hid c1
  clear c1 hx hr hu hg
  go_enter Try.func88, Try.ntmps88
  go_wp2
  (refine wp_region_later (by kernel_rfl) (by kernel_rfl) ?_; (repeat (go_big_quiet_step ((go_at_call 78; exact later_call (C1.out _ ((‹Later w›).h)))))); refine wpQuiet_nil ?_)
  intro w3 hb
  go_wp2
  go_ret
  exact ⟨rfl, (by repeat (first | exact Below.refl _ _ | assumption | refine Below.setCell ?_ (by first | (simp; done) | (simp; omega) | omega) _ | refine Below.drew ?_ | refine below_drewN ?_ _ | refine Below.alloc ?_ (by first | (simp; done) | (simp; omega) | omega) _ | refine below_alloc ?_ _ | refine below_step ?_ (by assumption)))⟩

set_option maxHeartbeats 1000000 in
theorem Retires_any (s d l : Int) (A : Option Addr) (len cap : Nat) (us : List (Int × Int)) (w : World) (hm : len ≤ cap ∧ cap ≤ 9223372036854775807) (hx : Pairs w w.heap.size A len us) :
    Calls Try.prog 53 #[.agg #[.int .i64 s, .int .i64 d, .int .i64 l], .slice A len cap] w fun e w' => e = .returned (.tuple #[.int .i64 (retV s d l us), .int .i64 (retE s d l us)]) ∧ Below w.heap.size w w' := by
  have c1 := fun W (h : Below w.heap.size w W) => asked_any s d l A len cap us 0 W hm ((hx.below h).more h.size)
  by_cases he : askR s d l us 0 = 0
  · obtain ⟨g1, g2, g3, g4⟩ := ask_spec he
    have hv : retV s d l us = if leastC (gone s d l us) 100000 ≤ 100000 then leastC (gone s d l us) 100000 else 0 := if_pos he
    have hv2 : retE s d l us = if leastC (gone s d l us) 100000 ≤ 100000 then 0 else 8 := if_pos he
    rw [hv, hv2]
    rw [he] at c1
    have c2 := fun W (h : Below w.heap.size w W) bx br x0 x1 x2 x3 r2 => least88_any 100000 (some ⟨bx, 0, none⟩) (some ⟨br, 0, none⟩) (gone s d l us) W (by decide) (by decide) (gone_mono g1 g2 _)
      (fun a W' ha hb (hW : Below W.heap.size W W') => Retires1_any s d l A len cap us a bx br W' hm (((hx.below h).below (hW.mono h.size)).more (Nat.le_trans h.size hW.size)) g1 g2 ha hb
        ((hW.cell (p := ⟨bx, 0, none⟩) (World.block_lt_of_cell? W _ x0)).trans x0) ((hW.cell (p := ⟨bx, 1, none⟩) (World.block_lt_of_cell? W _ x1)).trans x1) ((hW.cell (p := ⟨bx, 2, none⟩) (World.block_lt_of_cell? W _ x2)).trans x2) ((hW.cell (p := ⟨bx, 3, none⟩) (World.block_lt_of_cell? W _ x3)).trans x3) ((hW.cell (p := ⟨br, 2, none⟩) (World.block_lt_of_cell? W _ r2)).trans r2))
    have C1 := Lib.hid c1
    have C2 := Lib.hid c2
    clear c1 c2 hx hv hv2 g1 g2 he
    generalize leastC (gone s d l us) 100000 = R at *
    by_cases hR : R ≤ 100000
    all_goals
      go_enter Try.func53, Try.ntmps53
      go_wp2_with fail
      refine (C1.out _ (by repeat (first | exact Below.refl _ _ | assumption | refine Below.setCell ?_ (by first | (simp; done) | (simp; omega) | omega) _ | refine Below.drew ?_ | refine below_drewN ?_ _ | refine Below.alloc ?_ (by first | (simp; done) | (simp; omega) | omega) _ | refine below_alloc ?_ _ | refine below_step ?_ (by assumption)))).mono ?_
      rintro e w1 ⟨rfl, hb⟩
      have hB_w1 : Below w.heap.size w w1 := (by repeat (first | exact Below.refl _ _ | assumption | refine Below.setCell ?_ (by first | (simp; done) | (simp; omega) | omega) _ | refine Below.drew ?_ | refine below_drewN ?_ _ | refine Below.alloc ?_ (by first | (simp; done) | (simp; omega) | omega) _ | refine below_alloc ?_ _ | refine below_step ?_ (by assumption))); have hz_w1 := hB_w1.size; have hsw10 : w.heap.size < w1.heap.size := Nat.lt_of_lt_of_le (by first | (simp; done) | (simp; omega) | omega) hb.size; have hnw10 : ¬ w.heap.size = w1.heap.size := (by omega); have hmw10 : ¬ w1.heap.size = w.heap.size := (by omega); have hlw10_0 : w.heap.size ≤ w1.heap.size := (by omega); have hlw10_1 : w.heap.size ≤ w1.heap.size + 1 := (by omega); have hlw10_2 : w.heap.size ≤ w1.heap.size + 1 + 1 := (by omega); have hkw10 : w1.cell? ⟨w.heap.size, 0, none⟩ = some (.int .i64 s) := (by rw [hb.cell (p := ⟨w.heap.size, 0, none⟩) (by first | (simp; done) | (simp; omega) | omega)]; first | (go_simp; done) | assumption); have hkw11 : w1.cell? ⟨w.heap.size, 1, none⟩ = some (.int .i64 d) := (by rw [hb.cell (p := ⟨w.heap.size, 1, none⟩) (by first | (simp; done) | (simp; omega) | omega)]; first | (go_simp; done) | assumption); have hkw12 : w1.cell? ⟨w.heap.size, 2, none⟩ = some (.int .i64 l) := (by rw [hb.cell (p := ⟨w.heap.size, 2, none⟩) (by first | (simp; done) | (simp; omega) | omega)]; first | (go_simp; done) | assumption); clear hb
      go_wp2_with fail
      refine (C2.out _ (by repeat (first | exact Below.refl _ _ | assumption | refine Below.setCell ?_ (by first | (simp; done) | (simp; omega) | omega) _ | refine Below.drew ?_ | refine below_drewN ?_ _ | refine Below.alloc ?_ (by first | (simp; done) | (simp; omega) | omega) _ | refine below_alloc ?_ _ | refine below_step ?_ (by assumption))) w1.heap.size w.heap.size (by simp) (by simp) (by simp) (by simp) (by go_simp)).mono ?_
      rintro e w2 ⟨rfl, hb⟩
      have hB_w2 : Below w.heap.size w w2 := (by repeat (first | exact Below.refl _ _ | assumption | refine Below.setCell ?_ (by first | (simp; done) | (simp; omega) | omega) _ | refine Below.drew ?_ | refine below_drewN ?_ _ | refine Below.alloc ?_ (by first | (simp; done) | (simp; omega) | omega) _ | refine below_alloc ?_ _ | refine below_step ?_ (by assumption))); have hz_w2 := hB_w2.size; clear hb hB_w1 hlw10_0 hlw10_1 hlw10_2 hkw10 hkw11 hkw12
      go_wp2
      go_ret2
      exact ⟨by simp [hR], (by repeat (first | exact Below.refl _ _ | assumption | refine Below.setCell ?_ (by first | (simp; done) | (simp; omega) | omega) _ | refine Below.drew ?_ | refine below_drewN ?_ _ | refine Below.alloc ?_ (by first | (simp; done) | (simp; omega) | omega) _ | refine below_alloc ?_ _ | refine below_step ?_ (by assumption)))⟩
  · have hv : retV s d l us = 0 := if_neg he
    have hv2 : retE s d l us = askR s d l us 0 := if_neg he
    rw [hv, hv2]
    generalize askR s d l us 0 = E at *
    have he' : (E == 0) = false := by simpa using he
    have C1 := Lib.hid c1
    clear c1 hx hv hv2 he
    go_enter Try.func53, Try.ntmps53
    go_wp2_with fail
    refine (C1.out _ (by repeat (first | exact Below.refl _ _ | assumption | refine Below.setCell ?_ (by first | (simp; done) | (simp; omega) | omega) _ | refine Below.drew ?_ | refine below_drewN ?_ _ | refine Below.alloc ?_ (by first | (simp; done) | (simp; omega) | omega) _ | refine below_alloc ?_ _ | refine below_step ?_ (by assumption)))).mono ?_
    rintro e w1 ⟨rfl, hb⟩
    have hB_w1 : Below w.heap.size w w1 := (by repeat (first | exact Below.refl _ _ | assumption | refine Below.setCell ?_ (by first | (simp; done) | (simp; omega) | omega) _ | refine Below.drew ?_ | refine below_drewN ?_ _ | refine Below.alloc ?_ (by first | (simp; done) | (simp; omega) | omega) _ | refine below_alloc ?_ _ | refine below_step ?_ (by assumption))); have hz_w1 := hB_w1.size; clear hb
    go_wp2
    go_ret2
    exact ⟨rfl, (by repeat (first | exact Below.refl _ _ | assumption | refine Below.setCell ?_ (by first | (simp; done) | (simp; omega) | omega) _ | refine Below.drew ?_ | refine below_drewN ?_ _ | refine Below.alloc ?_ (by first | (simp; done) | (simp; omega) | omega) _ | refine below_alloc ?_ _ | refine below_step ?_ (by assumption)))⟩
end Go.Proofs.Ythninhkimhnegaa
