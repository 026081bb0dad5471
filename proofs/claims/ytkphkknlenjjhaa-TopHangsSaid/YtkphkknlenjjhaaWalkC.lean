/- Cradles: what a man at a place makes the ropes bear; the closures of Walk and Level. -/
import Derived.Test.YtkphkknlenjjhaaWith
import Derived.Test.YtkphkknlenjjhaaLeast2
set_option linter.unusedSimpArgs false
set_option linter.unusedVariables false
namespace Go.Proofs.Ytkphkknlenjjhaa
open Go.RowKit
attribute [local go_sem] Later.cell

def fstR (span : Int) (xs : List (Int × Int)) (wt a : Int) : Int := wsum (xs ++ [(a, wt)]) * span - msum (xs ++ [(a, wt)])
def sndR (xs : List (Int × Int)) (wt a : Int) : Int := msum (xs ++ [(a, wt)])
theorem fstR_eq (span : Int) (xs : List (Int × Int)) (wt a : Int) : fstR span xs wt a = (wsum xs * span - msum xs) + wt * span - wt * a := by
  unfold fstR
  rw [wsum_snoc, msum_snoc, Int.add_mul]
  dsimp only
  omega
theorem sndR_eq (xs : List (Int × Int)) (wt a : Int) : sndR xs wt a = msum xs + wt * a := by
  unfold sndR
  rw [msum_snoc]
theorem man_bd {span : Int} {xs : List (Int × Int)} {wt a : Int} (hg : goodL span xs = true) (hw : 0 ≤ wt ∧ wt ≤ 1000000) (ha : 0 ≤ a ∧ a ≤ span) : (0 ≤ fstR span xs wt a ∧ fstR span xs wt a ≤ 2100000000000) ∧ 0 ≤ sndR xs wt a ∧ sndR xs wt a ≤ 2100000000000 := by
  obtain ⟨⟨h1, h2⟩, h3, h4⟩ := goodL_spec hg
  obtain ⟨⟨s1, s2⟩, ⟨s3, s4⟩, ⟨s5, s6⟩, s7⟩ := sums_all (n := 20) (by omega) h2 h4 h3
  rw [s7] at s5 s6
  rw [fstR_eq, sndR_eq]
  have e1 : 0 ≤ wt * a := Int.mul_nonneg hw.1 ha.1
  have e2 : wt * a ≤ wt * span := Int.mul_le_mul_of_nonneg_left ha.2 hw.1
  have e3 : wt * span ≤ 1000000 * 100000 := Int.mul_le_mul hw.2 h2 (by omega) (by decide)
  omega
theorem fstR_mono {span : Int} {xs : List (Int × Int)} {wt a b : Int} (hw : 0 ≤ wt) (h : a ≤ b) : fstR span xs wt b ≤ fstR span xs wt a := by
  rw [fstR_eq, fstR_eq]
  have := Int.mul_le_mul_of_nonneg_left h hw
  omega
theorem sndR_mono {xs : List (Int × Int)} {wt a b : Int} (hw : 0 ≤ wt) (h : a ≤ b) : sndR xs wt a ≤ sndR xs wt b := by
  rw [sndR_eq, sndR_eq]
  have := Int.mul_le_mul_of_nonneg_left h hw
  omega
def loP (span : Int) (xs : List (Int × Int)) (wt lim a : Int) : Bool := decide (fstR span xs wt a ≤ lim * span)
def hiP (span : Int) (xs : List (Int × Int)) (wt lim a : Int) : Bool := decide (lim * span < sndR xs wt a)
def evP (span : Int) (xs : List (Int × Int)) (wt a : Int) : Bool := decide (fstR span xs wt a ≤ sndR xs wt a)
def offR (span : Int) (xs : List (Int × Int)) (wt a : Int) : Int := max (fstR span xs wt a - sndR xs wt a) (sndR xs wt a - fstR span xs wt a)

set_option maxHeartbeats 1000000 in
theorem Walk1_any (span : Int) (A : Option Addr) (len cap : Nat) (xs : List (Int × Int)) (wt lim a : Int) (b1 b2 b3 b4 : Nat) (w : World) (hcap : len ≤ cap ∧ cap ≤ 9223372036854775807) (hx : Pairs w w.heap.size A len xs)
    (hg : goodL span xs = true) (hw : 0 ≤ wt ∧ wt ≤ 1000000) (hl : 0 ≤ lim ∧ lim ≤ 1000000) (ha : 0 ≤ a ∧ a ≤ span)
    (x1 : w.cell? ⟨b1, 0, none⟩ = some (.int .i64 span)) (x2 : w.cell? ⟨b2, 0, none⟩ = some (.slice A len cap)) (x3 : w.cell? ⟨b3, 0, none⟩ = some (.int .i64 wt)) (x4 : w.cell? ⟨b4, 0, none⟩ = some (.int .i64 lim)) :
    Calls Try.prog 28 #[.int .i64 a, .pointer (some ⟨b1, 0, none⟩), .pointer (some ⟨b2, 0, none⟩), .pointer (some ⟨b3, 0, none⟩), .pointer (some ⟨b4, 0, none⟩)] w fun e w' => e = .returned (.bool (loP span xs wt lim a)) ∧ Below w.heap.size w w' := by
  obtain ⟨⟨h1, h2⟩, h3, h4⟩ := goodL_spec hg
  have hlen := hx.1
  have c1 := fun W (h : Below w.heap.size w W) => with_any span A len cap xs a wt W (by omega) hcap ((hx.below h).more h.size) (by omega) h4 ha hw
  have hlt1 : b1 < w.heap.size := World.block_lt_of_cell? w _ x1
  have hlt4 : b4 < w.heap.size := World.block_lt_of_cell? w _ x4
  have hv : loP span xs wt lim a = loP span xs wt lim a := rfl
  have bd := man_bd hg hw ha
  unfold loP
  change ∀ W, _ → Calls _ _ _ W fun e w' => e = .returned (.tuple #[.int .i64 (fstR span xs wt a), .int .i64 (sndR xs wt a)]) ∧ _ at c1
  generalize fstR span xs wt a = F at *
  generalize sndR xs wt a = S at *
  have hp : 0 ≤ lim * span ∧ lim * span ≤ 1000000 * 100000 := ⟨Int.mul_nonneg hl.1 (by omega), Int.mul_le_mul hl.2 h2 (by omega) (by decide)⟩
  have C1 := Lib.hid c1
  clear c1 hx hg h4 hv
  go_enter Try.func28, Try.ntmps28
  go_wp2_with fail
  refine (C1.out _ (by repeat (first | exact Below.refl _ _ | assumption | refine Below.setCell ?_ (by first | (simp; done) | (simp; omega) | omega) _ | refine Below.drew ?_ | refine below_drewN ?_ _ | refine Below.alloc ?_ (by first | (simp; done) | (simp; omega) | omega) _ | refine below_alloc ?_ _ | refine below_step ?_ (by assumption)))).mono ?_
  rintro e w1 ⟨rfl, hb⟩
  have y1 : w1.cell? ⟨b1, 0, none⟩ = some (.int .i64 span) := (hb.cell (p := ⟨b1, 0, none⟩) hlt1).trans x1
  have y4 : w1.cell? ⟨b4, 0, none⟩ = some (.int .i64 lim) := (hb.cell (p := ⟨b4, 0, none⟩) hlt4).trans x4
  go_wp2
  go_ret
  exact ⟨rfl, (by repeat (first | exact Below.refl _ _ | assumption | refine Below.setCell ?_ (by first | (simp; done) | (simp; omega) | omega) _ | refine Below.drew ?_ | refine below_drewN ?_ _ | refine Below.alloc ?_ (by first | (simp; done) | (simp; omega) | omega) _ | refine below_alloc ?_ _ | refine below_step ?_ (by assumption)))⟩
set_option maxHeartbeats 1000000 in
theorem Walk2_any (span : Int) (A : Option Addr) (len cap : Nat) (xs : List (Int × Int)) (wt lim a : Int) (b1 b2 b3 b4 : Nat) (w : World) (hcap : len ≤ cap ∧ cap ≤ 9223372036854775807) (hx : Pairs w w.heap.size A len xs)
    (hg : goodL span xs = true) (hw : 0 ≤ wt ∧ wt ≤ 1000000) (hl : 0 ≤ lim ∧ lim ≤ 1000000) (ha : 0 ≤ a ∧ a ≤ span)
    (x1 : w.cell? ⟨b1, 0, none⟩ = some (.int .i64 span)) (x2 : w.cell? ⟨b2, 0, none⟩ = some (.slice A len cap)) (x3 : w.cell? ⟨b3, 0, none⟩ = some (.int .i64 wt)) (x4 : w.cell? ⟨b4, 0, none⟩ = some (.int .i64 lim)) :
    Calls Try.prog 30 #[.int .i64 a, .pointer (some ⟨b1, 0, none⟩), .pointer (some ⟨b2, 0, none⟩), .pointer (some ⟨b3, 0, none⟩), .pointer (some ⟨b4, 0, none⟩)] w fun e w' => e = .returned (.bool (hiP span xs wt lim a)) ∧ Below w.heap.size w w' := by
  obtain ⟨⟨h1, h2⟩, h3, h4⟩ := goodL_spec hg
  have hlen := hx.1
  have c1 := fun W (h : Below w.heap.size w W) => with_any span A len cap xs a wt W (by omega) hcap ((hx.below h).more h.size) (by omega) h4 ha hw
  have hlt1 : b1 < w.heap.size := World.block_lt_of_cell? w _ x1
  have hlt4 : b4 < w.heap.size := World.block_lt_of_cell? w _ x4
  have hv : hiP span xs wt lim a = hiP span xs wt lim a := rfl
  have bd := man_bd hg hw ha
  unfold hiP
  change ∀ W, _ → Calls _ _ _ W fun e w' => e = .returned (.tuple #[.int .i64 (fstR span xs wt a), .int .i64 (sndR xs wt a)]) ∧ _ at c1
  generalize fstR span xs wt a = F at *
  generalize sndR xs wt a = S at *
  have hp : 0 ≤ lim * span ∧ lim * span ≤ 1000000 * 100000 := ⟨Int.mul_nonneg hl.1 (by omega), Int.mul_le_mul hl.2 h2 (by omega) (by decide)⟩
  have C1 := Lib.hid c1
  clear c1 hx hg h4 hv
  go_enter Try.func30, Try.ntmps30
  go_wp2_with fail
  refine (C1.out _ (by repeat (first | exact Below.refl _ _ | assumption | refine Below.setCell ?_ (by first | (simp; done) | (simp; omega) | omega) _ | refine Below.drew ?_ | refine below_drewN ?_ _ | refine Below.alloc ?_ (by first | (simp; done) | (simp; omega) | omega) _ | refine below_alloc ?_ _ | refine below_step ?_ (by assumption)))).mono ?_
  rintro e w1 ⟨rfl, hb⟩
  have y1 : w1.cell? ⟨b1, 0, none⟩ = some (.int .i64 span) := (hb.cell (p := ⟨b1, 0, none⟩) hlt1).trans x1
  have y4 : w1.cell? ⟨b4, 0, none⟩ = some (.int .i64 lim) := (hb.cell (p := ⟨b4, 0, none⟩) hlt4).trans x4
  go_wp2
  go_ret
  exact ⟨rfl, (by repeat (first | exact Below.refl _ _ | assumption | refine Below.setCell ?_ (by first | (simp; done) | (simp; omega) | omega) _ | refine Below.drew ?_ | refine below_drewN ?_ _ | refine Below.alloc ?_ (by first | (simp; done) | (simp; omega) | omega) _ | refine below_alloc ?_ _ | refine below_step ?_ (by assumption)))⟩
end Go.Proofs.Ytkphkknlenjjhaa
