/- Tapes: Trees; small, the chapter's ring. -/
import Derived.Test.YthpbkbbmedpecaaDoorTape8
set_option linter.unusedSimpArgs false
set_option linter.unusedVariables false
namespace Go.Proofs.YthpbkbbmedpecaaDoor
open Go.RowKit
attribute [local go_sem] Later.cell Same.cell

theorem ints0 (W : World) (B : Nat) : Ints W B none 0 [] := ⟨rfl, fun h => absurd h (by omega)⟩
set_option maxHeartbeats 1000000 in
theorem Trees_any (n : Int) (A : Option Addr) (len cap : Nat) (l : List Tp) (w : World) (hm : len ≤ 9223372036854775807) (hx : Rows 3 int3 (0,0,0) w w.heap.size A len l) :
    Calls Tryd.prog 12 #[.int .i64 n, .slice A len cap] w fun e w' => e = .returned (.tuple #[.int .i64 (trV n l), .int .i64 (trE n l)]) ∧ Below w.heap.size w w' := by
  have c1 := fun W (h : Below w.heap.size w W) => asked_any n A len cap l none 0 0 [] W hm (by omega) ((hx.below h).more h.size) (ints0 _ _)
  have hA : askE n l [] = if vNet n l then 0 else 1 := by unfold askE; cases vNet n l <;> rfl
  cases hv : vNet n l
  · have hE : trE n l = 1 := by unfold trE; rw [hv]; rfl
    have hV : trV n l = 0 := by unfold trV; rw [hv]; rfl
    rw [hA, hv] at c1
    rw [hE, hV]
    have C1 := Lib.hid c1
    clear c1 hx hA hv hE hV
    go_enter Tryd.func12, Tryd.ntmps12
    go_wp2_with fail
    refine (C1.out _ (by repeat (first | exact Below.refl _ _ | assumption | refine Below.setCell ?_ (by first | (simp; done) | (simp; omega) | omega) _ | refine Below.drew ?_ | refine below_drewN ?_ _ | refine Below.alloc ?_ (by first | (simp; done) | (simp; omega) | omega) _ | refine below_alloc ?_ _ | refine below_step ?_ (by assumption)))).mono ?_
    rintro e w1 ⟨rfl, hb⟩
    have hB_w1 : Below w.heap.size w w1 := (by repeat (first | exact Below.refl _ _ | assumption | refine Below.setCell ?_ (by first | (simp; done) | (simp; omega) | omega) _ | refine Below.drew ?_ | refine below_drewN ?_ _ | refine Below.alloc ?_ (by first | (simp; done) | (simp; omega) | omega) _ | refine below_alloc ?_ _ | refine below_step ?_ (by assumption))); have hz_w1 := hB_w1.size; clear hb
    go_wp2
    go_ret2
    exact ⟨rfl, (by repeat (first | exact Below.refl _ _ | assumption | refine Below.setCell ?_ (by first | (simp; done) | (simp; omega) | omega) _ | refine Below.drew ?_ | refine below_drewN ?_ _ | refine Below.alloc ?_ (by first | (simp; done) | (simp; omega) | omega) _ | refine below_alloc ?_ _ | refine below_step ?_ (by assumption)))⟩
  · have hE : trE n l = 0 := by unfold trE; rw [hv]; rfl
    have hV : trV n l = trN n l := by unfold trV; rw [hv]; rfl
    obtain ⟨hn, hlen, hl⟩ := vNet_spec hv
    rw [hx.1] at hlen
    rw [hA, hv] at c1
    rw [hE, hV]
    exact Trees_ok n A len cap l w hlen hn hl hx c1
set_option maxHeartbeats 1000000 in
theorem tsmall_any (n : Int) (A : Option Addr) (len cap : Nat) (w : World) :
    Calls Tryd.prog 4 #[.agg #[.int .i64 n, .slice A len cap]] w fun e w' => e = .returned (.bool (decide (len ≤ 30))) ∧ Below w.heap.size w w' := by
  go_enter Tryd.func4, Tryd.ntmps4
  go_wp2
  go_ret
  exact ⟨ret_bool (decide_eq_decide.2 (by omega)), (by repeat (first | exact Below.refl _ _ | assumption | refine Below.setCell ?_ (by first | (simp; done) | (simp; omega) | omega) _ | refine Below.drew ?_ | refine below_drewN ?_ _ | refine Below.alloc ?_ (by first | (simp; done) | (simp; omega) | omega) _ | refine below_alloc ?_ _ | refine below_step ?_ (by assumption)))⟩
def ring : List Tp := [(0, 1, 1), (1, 2, 2), (0, 2, 3)]
theorem ring_E : resE 3 ring 0 1 = 0 := by decide +kernel
theorem ring_N : rsN 3 ring 0 1 = 5 := by decide +kernel
theorem ring_D : rsD 3 ring 0 1 = 6 := by decide +kernel
theorem ring_T : trV 3 ring = 3 := by decide +kernel
theorem ring_TE : trE 3 ring = 0 := by decide +kernel
theorem ring_rows (W : World) (t : TypeId) : Rows 3 int3 (0,0,0) (W.alloc (.cells #[.int .i64 0, .int .i64 1, .int .i64 1, .int .i64 1, .int .i64 2, .int .i64 2, .int .i64 0, .int .i64 2, .int .i64 3] t)) (W.alloc (.cells #[.int .i64 0, .int .i64 1, .int .i64 1, .int .i64 1, .int .i64 2, .int .i64 2, .int .i64 0, .int .i64 2, .int .i64 3] t)).heap.size (some ⟨W.heap.size, 0, none⟩) 3 ring := by
  refine ⟨rfl, fun _ => ⟨W.heap.size, 0, rfl, by simp, fun k hk j v hj => ?_⟩⟩
  have hj3 : j < 3 := by
    have := (List.getElem?_eq_some_iff.1 hj).1
    simpa [int3] using this
  rw [World.cell?_alloc_at _ _ _ _ rfl, ← hj]
  rcases (by omega : k = 0 ∨ k = 1 ∨ k = 2) with rfl | rfl | rfl <;> rcases (by omega : j = 0 ∨ j = 1 ∨ j = 2) with rfl | rfl | rfl <;> rfl
set_option maxHeartbeats 2000000 in
theorem tawake_any (w : World) :
    Calls Tryd.prog 5 #[] w fun e w' => e = .returned (.bool true) ∧ Below w.heap.size w w' := by
  have hr := fun t => ring_rows w t
  have c1 := fun t => Resistance_any 3 (some ⟨w.heap.size, 0, none⟩) 3 3 ring 0 1 _ (by omega) (hr t)
  have c2 := fun t W h => Trees_any 3 (some ⟨w.heap.size, 0, none⟩) 3 3 ring W (by omega) (((hr t).below h).more h.size)
  rw [ring_E, ring_N, ring_D] at c1
  rw [ring_T, ring_TE] at c2
  have C1 := Lib.hid (c1 34)
  have C2 := Lib.hid (c2 34)
  clear c1 c2 hr
  go_enter Tryd.func5, Tryd.ntmps5
  go_wp2_with fail
  refine C1.out.mono ?_
  rintro e w1 ⟨rfl, hb⟩
  have hB1 : Below w.heap.size w w1 := ((Below.refl _ _).alloc (Nat.le_refl _) _).trans (hb.mono (by simp))
  have hs1 := hB1.size
  go_wp2_with fail
  refine (C2.out _ (hb.alloc hb.size _)).mono ?_
  rintro e w2 ⟨rfl, hb2⟩
  have hq0 : w2.cell? ⟨w1.heap.size, 0, none⟩ = some (.int .i64 5) := by rw [hb2.cell (p := ⟨w1.heap.size, 0, none⟩) (by simp)]; first | done | go_simp
  have hq1 : w2.cell? ⟨w1.heap.size, 1, none⟩ = some (.int .i64 6) := by rw [hb2.cell (p := ⟨w1.heap.size, 1, none⟩) (by simp)]; first | done | go_simp
  have hB2 : Below w.heap.size w w2 := (hB1.alloc hs1 _).trans (hb2.mono (by simp; omega))
  clear hb hb2
  go_wp2
  go_ret
  exact ⟨rfl, hB2⟩
end Go.Proofs.YthpbkbbmedpecaaDoor
