/- Cradles: the closures of Level. -/
import Derived.Test.YthninhkimhnegaaWalkC
set_option linter.unusedSimpArgs false
set_option linter.unusedVariables false
namespace Go.Proofs.Ythninhkimhnegaa
open Go.RowKit
attribute [local go_sem] Later.cell

set_option maxHeartbeats 1000000 in
theorem Level2_any (span : Int) (A : Option Addr) (len cap : Nat) (xs : List (Int × Int)) (wt a : Int) (b1 b2 b3 : Nat) (w : World) (hcap : len ≤ cap ∧ cap ≤ 9223372036854775807) (hx : Pairs w w.heap.size A len xs)
    (hg : goodL span xs = true) (hw : 0 ≤ wt ∧ wt ≤ 1000000) (ha : 0 ≤ a ∧ a ≤ span)
    (x1 : w.cell? ⟨b1, 0, none⟩ = some (.int .i64 span)) (x2 : w.cell? ⟨b2, 0, none⟩ = some (.slice A len cap)) (x3 : w.cell? ⟨b3, 0, none⟩ = some (.int .i64 wt)) :
    Calls Try.prog 87 #[.int .i64 a, .pointer (some ⟨b1, 0, none⟩), .pointer (some ⟨b2, 0, none⟩), .pointer (some ⟨b3, 0, none⟩)] w fun e w' => e = .returned (.bool (evP span xs wt a)) ∧ Below w.heap.size w w' := by
  obtain ⟨⟨h1, h2⟩, h3, h4⟩ := goodL_spec hg
  have hlen := hx.1
  have c1 := fun W (h : Below w.heap.size w W) => with_any span A len cap xs a wt W (by omega) hcap ((hx.below h).more h.size) (by omega) h4 ha hw
  have hlt1 : b1 < w.heap.size := World.block_lt_of_cell? w _ x1
  have hv : evP span xs wt a = evP span xs wt a := rfl
  have bd := man_bd hg hw ha
  unfold evP
  change ∀ W, _ → Calls _ _ _ W fun e w' => e = .returned (.tuple #[.int .i64 (fstR span xs wt a), .int .i64 (sndR xs wt a)]) ∧ _ at c1
  generalize fstR span xs wt a = F at *
  generalize sndR xs wt a = S at *
  have C1 := Lib.hid c1
  clear c1 hx hg h4 hv
  go_enter Try.func87, Try.ntmps87
  go_wp2_with fail
  refine (C1.out _ (by repeat (first | exact Below.refl _ _ | assumption | refine Below.setCell ?_ (by first | (simp; done) | (simp; omega) | omega) _ | refine Below.drew ?_ | refine below_drewN ?_ _ | refine Below.alloc ?_ (by first | (simp; done) | (simp; omega) | omega) _ | refine below_alloc ?_ _ | refine below_step ?_ (by assumption)))).mono ?_
  rintro e w1 ⟨rfl, hb⟩
  have y1 : w1.cell? ⟨b1, 0, none⟩ = some (.int .i64 span) := (hb.cell (p := ⟨b1, 0, none⟩) hlt1).trans x1
  go_wp2
  go_ret
  exact ⟨rfl, (by repeat (first | exact Below.refl _ _ | assumption | refine Below.setCell ?_ (by first | (simp; done) | (simp; omega) | omega) _ | refine Below.drew ?_ | refine below_drewN ?_ _ | refine Below.alloc ?_ (by first | (simp; done) | (simp; omega) | omega) _ | refine below_alloc ?_ _ | refine below_step ?_ (by assumption)))⟩
set_option maxHeartbeats 1000000 in
theorem Level1_any (span : Int) (A : Option Addr) (len cap : Nat) (xs : List (Int × Int)) (wt a : Int) (b1 b2 b3 : Nat) (w : World) (hcap : len ≤ cap ∧ cap ≤ 9223372036854775807) (hx : Pairs w w.heap.size A len xs)
    (hg : goodL span xs = true) (hw : 0 ≤ wt ∧ wt ≤ 1000000) (ha : 0 ≤ a ∧ a ≤ span)
    (x1 : w.cell? ⟨b1, 0, none⟩ = some (.int .i64 span)) (x2 : w.cell? ⟨b2, 0, none⟩ = some (.slice A len cap)) (x3 : w.cell? ⟨b3, 0, none⟩ = some (.int .i64 wt)) :
    Calls Try.prog 86 #[.int .i64 a, .pointer (some ⟨b1, 0, none⟩), .pointer (some ⟨b2, 0, none⟩), .pointer (some ⟨b3, 0, none⟩)] w fun e w' => e = .returned (.int .i64 (offR span xs wt a)) ∧ Below w.heap.size w w' := by
  obtain ⟨⟨h1, h2⟩, h3, h4⟩ := goodL_spec hg
  have hlen := hx.1
  have c1 := fun W (h : Below w.heap.size w W) => with_any span A len cap xs a wt W (by omega) hcap ((hx.below h).more h.size) (by omega) h4 ha hw
  have hlt1 : b1 < w.heap.size := World.block_lt_of_cell? w _ x1
  have hv : offR span xs wt a = offR span xs wt a := rfl
  have bd := man_bd hg hw ha
  unfold offR
  change ∀ W, _ → Calls _ _ _ W fun e w' => e = .returned (.tuple #[.int .i64 (fstR span xs wt a), .int .i64 (sndR xs wt a)]) ∧ _ at c1
  generalize fstR span xs wt a = F at *
  generalize sndR xs wt a = S at *
  have C1 := Lib.hid c1
  clear c1 hx hg h4 hv
  go_enter Try.func86, Try.ntmps86
  go_wp2_with fail
  refine (C1.out _ (by repeat (first | exact Below.refl _ _ | assumption | refine Below.setCell ?_ (by first | (simp; done) | (simp; omega) | omega) _ | refine Below.drew ?_ | refine below_drewN ?_ _ | refine Below.alloc ?_ (by first | (simp; done) | (simp; omega) | omega) _ | refine below_alloc ?_ _ | refine below_step ?_ (by assumption)))).mono ?_
  rintro e w1 ⟨rfl, hb⟩
  have y1 : w1.cell? ⟨b1, 0, none⟩ = some (.int .i64 span) := (hb.cell (p := ⟨b1, 0, none⟩) hlt1).trans x1
  go_wp2
  all_goals
    go_ret
    exact ⟨ret_int (by omega), (by repeat (first | exact Below.refl _ _ | assumption | refine Below.setCell ?_ (by first | (simp; done) | (simp; omega) | omega) _ | refine Below.drew ?_ | refine below_drewN ?_ _ | refine Below.alloc ?_ (by first | (simp; done) | (simp; omega) | omega) _ | refine below_alloc ?_ _ | refine below_step ?_ (by assumption)))⟩
end Go.Proofs.Ythninhkimhnegaa
