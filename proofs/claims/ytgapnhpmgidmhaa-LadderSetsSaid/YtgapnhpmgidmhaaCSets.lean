/- LadderSets: the row over the walk. -/
import Derived.Test.YtgapnhpmgidmhaaLSets
import Derived.Test.YtgapnhpmgidmhaaOpenJ
import Derived.Test.YtgapnhpmgidmhaaChecked
import Derived.Test.YtgapnhpmgidmhaaRows
import Derived.Test.YtgapnhpmgidmhaaOpen
import Derived.ShutString
import Derived.ChangeOld
set_option linter.unusedSimpArgs false
set_option linter.unusedVariables false
namespace Go.Proofs.Ytgapnhpmgidmhaa.ladderSets
open Go.ChangeShapes Go.WideShapes Go.ChangeAt Go.RowKit

theorem own : ownKnob Try.prog.godebug = none := by kernel_rfl
theorem laidOut : laidOutB Try.prog = true := by kernel_rfl

set_option maxRecDepth 100000 in
theorem lifted (os : Os) (started : os.Started) (H : Type) (enc : TypeId × Value → H) :
    ReturnsInHanded {} Try.checked os 3 .any (Rows.ladderSetsSpec.pre6 enc Try.prog Try.f3 Rows.ladderSetsRow.domain false) (Rows.ladderSetsSpec.post enc Try.prog Try.f3 false true false false) := by
  refine returnsInHanded_of_change (C := Try.checked) own started (by kernel_rfl) Try.func3
    (ChangeSpec.witness6 (enc := enc) (C := Try.checked) false ⟨#[], #[.agg #[.int .i64 0, .int .i64 0, .int .i64 0, .int .i64 0, .int .i64 0, .int .i64 0], .slice none 0 0, .agg #[.slice none 0 0, .slice none 0 0, .int .i64 0]], []⟩ 8 (by kernel_rfl) (by kernel_rfl) (by kernel_rfl) (by kernel_rfl)) ?_
  intro W base args ds gs before hval0 hW hcnd _
  have hval : ∀ (j : Nat) t v, Try.f3.params[j]? = some t → args[j]? = some v → Value.okWide Try.prog W .any base t v := hval0
  have hW' := hW
  obtain ⟨p, q, hA0, hV, rfl, hfz, hnd⟩ := hW
  have hA : DataW.TrodAll enc Try.prog W 0 (fun _ => true) true Try.f3.params.toList args.toList ds p := hA0
  rw [Try.params3] at hA hval
  obtain ⟨v0, vs0, d0, ds0, p0, q0, hargs, rfl, rfl, h0, r0⟩ := trodAll_cons hA
  obtain ⟨v1, vs1, d1, ds1, p1, q1, rfl, rfl, rfl, h1, r1⟩ := trodAll_cons r0
  obtain ⟨v2, vs2, d2, ds2, p2, q2, rfl, rfl, rfl, h2, r2⟩ := trodAll_cons r1
  obtain ⟨rfl, rfl, rfl⟩ := trodAll_nil r2
  obtain rfl : args = #[v0, v1, v2] := by cases args; simp_all
  obtain ⟨rfl, rfl⟩ := trodVars_none hV
  have k0 := h0
  have lt0 : ∀ x ∈ p0, x.block < W.heap.size := by obtain ⟨m, hm⟩ := k0; exact DataW.trod_lt m _ _ _ hm
  have hlv0 : leaves Try.prog 8 23 = some [3, 3, 3, 3, 3, 3] := by kernel_rfl
  obtain ⟨l0, rfl, hl0⟩ := okWide_agg (n := 6) (by kernel_rfl) hlv0 (by decide) (hval 0 23 v0 rfl rfl)
  obtain ⟨c0_0, c0_1, c0_2, c0_3, c0_4, c0_5, rfl⟩ := list6 hl0
  obtain ⟨fuel0, hf0⟩ := h0
  obtain ⟨a0_0, e0_0, w0_0⟩ := leaf_int hlv0 hf0 0 rfl Try.underlying3
  simp [Value.cells] at e0_0
  subst e0_0
  obtain ⟨a0_1, e0_1, w0_1⟩ := leaf_int hlv0 hf0 1 rfl Try.underlying3
  simp [Value.cells] at e0_1
  subst e0_1
  obtain ⟨a0_2, e0_2, w0_2⟩ := leaf_int hlv0 hf0 2 rfl Try.underlying3
  simp [Value.cells] at e0_2
  subst e0_2
  obtain ⟨a0_3, e0_3, w0_3⟩ := leaf_int hlv0 hf0 3 rfl Try.underlying3
  simp [Value.cells] at e0_3
  subst e0_3
  obtain ⟨a0_4, e0_4, w0_4⟩ := leaf_int hlv0 hf0 4 rfl Try.underlying3
  simp [Value.cells] at e0_4
  subst e0_4
  obtain ⟨a0_5, e0_5, w0_5⟩ := leaf_int hlv0 hf0 5 rfl Try.underlying3
  simp [Value.cells] at e0_5
  subst e0_5
  have k1 := h1
  have lt1 : ∀ x ∈ p1, x.block < W.heap.size := by obtain ⟨m, hm⟩ := k1; exact DataW.trod_lt m _ _ _ hm
  obtain ⟨A1, len1, cap1, rfl⟩ := okWide_slice Try.underlying24 (hval 1 24 v1 rfl rfl)
  obtain ⟨fuel1, hf1⟩ := h1
  obtain ⟨xs1, hlc1, hcm1, hP1, hb1⟩ := open_rows_at (c := 2) Try.underlying24 (by kernel_rfl) (by decide) jointV dJ (fun a => bd64 a.1) (fun hl0 hx0 => el_joint (by kernel_rfl) Try.underlying3 Try.underlying4 hl0 hx0) hf1
  have k2 := h2
  have lt2 : ∀ x ∈ p2, x.block < W.heap.size := by obtain ⟨m, hm⟩ := k2; exact DataW.trod_lt m _ _ _ hm
  have hlv2 : leaves Try.prog 8 27 = some [25, 25, 3] := by kernel_rfl
  obtain ⟨l2, rfl, hl2⟩ := okWide_agg (n := 3) (by kernel_rfl) hlv2 (by decide) (hval 2 27 v2 rfl rfl)
  obtain ⟨c2_0, c2_1, c2_2, rfl⟩ := list3 hl2
  obtain ⟨fuel2, hf2⟩ := h2
  obtain ⟨s2_0, e2_0, m2_0, y2_0, t2_0⟩ := leaf_slice hlv2 hf2 0 rfl Try.underlying25
  simp [Value.cells] at e2_0
  subst e2_0
  obtain ⟨A2_0, len2_0, cap2_0, xs2_0, e2_0x, hlc2_0, hcm2_0, hP2_0, hb2_0⟩ := open_rows (c := 1) Try.underlying25 (by kernel_rfl) (by decide) int1 0 (fun a => bd64 a) (fun hl0 hx0 => el_int Try.underlying3 hl0 hx0) t2_0
  subst e2_0x
  obtain ⟨s2_1, e2_1, m2_1, y2_1, t2_1⟩ := leaf_slice hlv2 hf2 1 rfl Try.underlying25
  simp [Value.cells] at e2_1
  subst e2_1
  obtain ⟨A2_1, len2_1, cap2_1, xs2_1, e2_1x, hlc2_1, hcm2_1, hP2_1, hb2_1⟩ := open_rows (c := 1) Try.underlying25 (by kernel_rfl) (by decide) int1 0 (fun a => bd64 a) (fun hl0 hx0 => el_int Try.underlying3 hl0 hx0) t2_1
  subst e2_1x
  obtain ⟨a2_2, e2_2, w2_2⟩ := leaf_int hlv2 hf2 2 rfl Try.underlying3
  simp [Value.cells] at e2_2
  subst e2_2
  clear hA0 hval0
  refine (sets_walk a0_0 a0_1 a0_2 a0_3 a0_4 a0_5 A1 len1 cap1 xs1 A2_0 len2_0 cap2_0 xs2_0 A2_1 len2_1 cap2_1 xs2_1 a2_2 W w0_0 w0_1 w0_2 w0_3 w0_4 w0_5 ⟨hlc1, by unfold maxLen at hcm1; omega⟩ hP1 hb1 ⟨hlc2_0, by unfold maxLen at hcm2_0; omega⟩ (rows_ints hP2_0) hb2_0 ⟨hlc2_1, by unfold maxLen at hcm2_1; omega⟩ (rows_ints hP2_1) hb2_1 w2_2).mono fun e W' ⟨he, bel⟩ => ?_
  subst he
  exact ⟨_, rfl, _, _, _, [], _, [], hW', trodAll_mk1 (shut_bool Try.underlying4 _), (trodAll_cons_mk (Below.trod laidOut (by kernel_rfl) (of_decide_eq_true (by kernel_rfl)) k0 bel lt0) (trodAll_cons_mk (Below.trod laidOut (by kernel_rfl) (of_decide_eq_true (by kernel_rfl)) k1 bel lt1) (trodAll_cons_mk (Below.trod laidOut (by kernel_rfl) (of_decide_eq_true (by kernel_rfl)) k2 bel lt2) trodAll_mk0))), rfl, bel.frame _, fun h => by cases h⟩

theorem holds : Rows.LadderSetsSaid :=
  OpenClaim.holds_of_wide 3 Try.f3 rfl rfl rfl rfl rfl rfl rfl ⟨rfl, rfl, rfl, rfl, rfl⟩ rfl rfl rfl rfl rfl (by kernel_rfl) Try.func3 (by kernel_rfl)
    (of_decide_eq_true (by kernel_rfl)) (by unfold Func.isWrapper; first | (rw [if_pos (by decide +kernel)]; kernel_rfl) | (rw [if_neg (by decide +kernel)]; exact ⟨rfl, rfl⟩))
    (fun os started H enc _ => lifted os started H enc)

end Go.Proofs.Ytgapnhpmgidmhaa.ladderSets
