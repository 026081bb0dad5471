/- Turned surveys: plain; within, marked. -/
import Derived.Test.YtfahdgmnlpkaiaaTape1
import Derived.Test.YtfahdgmnlpkaiaaMixG
set_option linter.unusedSimpArgs false
set_option linter.unusedVariables false
namespace Go.Proofs.Ytfahdgmnlpkaiaa
open Go.RowKit
attribute [local go_sem] Later.cell

def mkB (t : Tp) : Bool := withinB t.1 0 200000 && (withinB t.2.1 (-10000) 10000 && withinB t.2.2 (-10000) 10000)
def mkX (l : List Tp) (k : Nat) : Bool := mkB (tpA l k) && (decide (k = 0) || decide ((tpA l (k - 1)).1 < (tpA l k).1))
def vM (l : List Tp) : Bool := (List.range l.length).all (mkX l) && withinB l.length 1 40
def tuM (t : Tp) : Tp := (t.1, -t.2.2, t.2.1)
def eaM (t : Tp) : Int × Int := (t.1, t.2.1)
def noM (t : Tp) : Int × Int := (t.1, t.2.2)
theorem withinB_neg (n h : Int) : withinB (-n) (-h) h = withinB n (-h) h := by
  unfold withinB
  exact decide_eq_decide.2 (by omega)
theorem mkB_tu (t : Tp) : mkB (tuM t) = mkB t := by
  unfold mkB tuM
  simp only
  rw [withinB_neg, Bool.and_comm (withinB t.2.2 _ _)]
theorem tpA_map {l : List Tp} {k : Nat} (h : k < l.length) : tpA (l.map tuM) k = tuM (tpA l k) := by
  unfold tpA
  rw [List.getElem?_map, List.getElem?_eq_getElem h]; rfl
theorem vM_tu (l : List Tp) : vM (l.map tuM) = vM l := by
  unfold vM
  rw [List.length_map]
  congr 1
  rw [Bool.eq_iff_iff, List.all_eq_true, List.all_eq_true]
  refine forall_congr' fun k => forall_congr' fun hk => ?_
  have hk' := List.mem_range.1 hk
  unfold mkX
  rw [tpA_map hk', mkB_tu]
  rcases Nat.eq_zero_or_pos k with rfl | h0
  · simp
  · rw [tpA_map (by omega)]; rfl
theorem north_tu (l : List Tp) : (l.map tuM).map noM = l.map eaM := by rw [List.map_map]; rfl
set_option maxHeartbeats 400000 in
theorem lwithin_any (n lo hi : Int) (w : World) :
    Calls Try.prog 25 #[.int .i64 n, .int .i64 lo, .int .i64 hi] w fun e w' => e = .returned (.bool (withinB n lo hi)) ∧ w = w' := by
  go_enter Try.func25, Try.ntmps25
  go_wp2
  · go_ret
    exact ⟨ret_bool (withinB_tt ‹_›), rfl⟩
  · go_ret
    exact ⟨ret_bool (withinB_ff ‹_›), rfl⟩
set_option maxHeartbeats 400000 in
theorem swithin_any (n lo hi : Int) (w : World) :
    Calls Try.prog 27 #[.int .i64 n, .int .i64 lo, .int .i64 hi] w fun e w' => e = .returned (.bool (withinB n lo hi)) ∧ w = w' := by
  go_enter Try.func27, Try.ntmps27
  go_wp2
  · go_ret
    exact ⟨ret_bool (withinB_tt ‹_›), rfl⟩
  · go_ret
    exact ⟨ret_bool (withinB_ff ‹_›), rfl⟩
set_option maxHeartbeats 2000000 in
theorem marked_any (h e n : Int) (w : World) :
    Calls Try.prog 24 #[.agg #[.int .i64 h, .int .i64 e, .int .i64 n]] w fun x w' => x = .returned (.bool (mkB (h, e, n))) ∧ Below w.heap.size w w' := by
  have c1 := fun W => lwithin_any h 0 200000 W
  have c2 := fun W => lwithin_any e (-10000) 10000 W
  have c3 := fun W => lwithin_any n (-10000) 10000 W
  have hv : mkB (h, e, n) = (withinB h 0 200000 && (withinB e (-10000) 10000 && withinB n (-10000) 10000)) := rfl
  rw [hv]
  clear hv
  generalize withinB h 0 200000 = V1 at *
  generalize withinB e (-10000) 10000 = V2 at *
  generalize withinB n (-10000) 10000 = V3 at *
  have C1 := Lib.hid c1
  have C2 := Lib.hid c2
  have C3 := Lib.hid c3
  clear c1 c2 c3
  have he : ∀ j v, [Value.int .i64 h, .int .i64 e, .int .i64 n][j]? = some v → (w.alloc (.cells #[.int .i64 h, .int .i64 e, .int .i64 n] 51)).cell? ⟨w.heap.size, j, none⟩ = some v := by
    intro j v hj
    match j with
    | 0 => simp at hj; subst hj; go_simp
    | 1 => simp at hj; subst hj; go_simp
    | 2 => simp at hj; subst hj; go_simp
    | j + 3 => simp at hj
  have hB : Below w.heap.size w (w.alloc (.cells #[.int .i64 h, .int .i64 e, .int .i64 n] 51)) := (Below.refl _ _).alloc (Nat.le_refl _) _
  have q0 := he 0 _ rfl
  have q1 := he 1 _ rfl
  have q2 := he 2 _ rfl
  clear he
  obtain ⟨W0, hW0⟩ : ∃ W0, W0 = w.alloc (.cells #[.int .i64 h, .int .i64 e, .int .i64 n] 51) := ⟨_, rfl⟩
  rw [← hW0] at q0 q1 q2 hB
  go_enter Try.func24, Try.ntmps24
  go_wp2_with fail
  rw [← hW0]
  clear hW0
  refine (C1.out _).mono ?_
  rintro e' w' ⟨rfl, rfl⟩
  cases V1
  · go_wp2
    go_ret
    exact ⟨rfl, hB⟩
  · go_wp2_with fail
    refine (C2.out _).mono ?_
    rintro e' w' ⟨rfl, rfl⟩
    cases V2
    · go_wp2
      go_ret
      exact ⟨rfl, hB⟩
    · go_wp2_with fail
      refine (C3.out _).mono ?_
      rintro e' w' ⟨rfl, rfl⟩
      cases V3
      · go_wp2
        go_ret
        exact ⟨rfl, hB⟩
      · go_wp2
        go_ret
        exact ⟨rfl, hB⟩
end Go.Proofs.Ytfahdgmnlpkaiaa
