/- TopHangs: for every hung cradle, weight and place: where a man may walk so that neither rope bears more than the ladders do, the ladders bear both shares: the law returns true. No condition. -/
import Derived.Test.YtkphkknlenjjhaaLHangs
import Derived.Test.YtkphkknlenjjhaaOpenJ
import Derived.Test.YtkphkknlenjjhaaOpenR
import Derived.Test.YtkphkknlenjjhaaChecked
import Derived.Test.YtkphkknlenjjhaaRows
import Derived.Test.YtkphkknlenjjhaaOpen
import Derived.ShutString
import Derived.ChangeOld
set_option linter.unusedSimpArgs false
set_option linter.unusedVariables false
namespace Go.Proofs.Ytkphkknlenjjhaa.topHangs
open Go.ChangeShapes Go.WideShapes Go.ChangeAt Go.RowKit

theorem own : ownKnob Try.prog.godebug = none := by kernel_rfl
theorem laidOut : laidOutB Try.prog = true := by kernel_rfl

set_option maxRecDepth 100000 in
theorem lifted (os : Os) (started : os.Started) (H : Type) (enc : TypeId × Value → H) :
    ReturnsInHanded {} Try.checked os 4 .any (Rows.topHangsSpec.pre6 enc Try.prog Try.f4 Rows.topHangsRow.domain false) (Rows.topHangsSpec.post enc Try.prog Try.f4 false true false false) := by
  refine returnsInHanded_of_change (C := Try.checked) own started (by kernel_rfl) Try.func4
    (ChangeSpec.witness6 (enc := enc) (C := Try.checked) false ⟨#[], #[.agg #[.int .i64 0, .int .i64 0, .int .i64 0, .int .i64 0, .int .i64 0, .int .i64 0, .slice none 0 0, .slice none 0 0, .slice none 0 0, .int .i64 0, .int .i64 0, .slice none 0 0], .int .i64 0, .int .i64 0], []⟩ 8 (by kernel_rfl) (by kernel_rfl) (by kernel_rfl) (by kernel_rfl)) ?_
  intro W base args ds gs before hval0 hW hcnd _
  have hval : ∀ (j : Nat) t v, Try.f4.params[j]? = some t → args[j]? = some v → Value.okWide Try.prog W .any base t v := hval0
  have hW' := hW
  obtain ⟨p, q, hA0, hV, rfl, hfz, hnd⟩ := hW
  have hA : DataW.TrodAll enc Try.prog W 0 (fun _ => true) true Try.f4.params.toList args.toList ds p := hA0
  rw [Try.params4] at hA hval
  obtain ⟨v0, vs0, d0, ds0, p0, q0, hargs, rfl, rfl, h0, r0⟩ := trodAll_cons hA
  obtain ⟨v1, vs1, d1, ds1, p1, q1, rfl, rfl, rfl, h1, r1⟩ := trodAll_cons r0
  obtain ⟨v2, vs2, d2, ds2, p2, q2, rfl, rfl, rfl, h2, r2⟩ := trodAll_cons r1
  obtain ⟨rfl, rfl, rfl⟩ := trodAll_nil r2
  obtain rfl : args = #[v0, v1, v2] := by cases args; simp_all
  obtain ⟨rfl, rfl⟩ := trodVars_none hV
  have k0 := h0
  have lt0 : ∀ x ∈ p0, x.block < W.heap.size := by obtain ⟨m, hm⟩ := k0; exact DataW.trod_lt m _ _ _ hm
  have hlv0 : leaves Try.prog 8 52 = some [3, 3, 3, 3, 3, 3, 44, 45, 45, 3, 3, 48] := by kernel_rfl
  obtain ⟨l0, rfl, hl0⟩ := okWide_agg (n := 12) (by kernel_rfl) hlv0 (by decide) (hval 0 52 v0 rfl rfl)
  obtain ⟨c0_0, c0_1, c0_2, c0_3, c0_4, c0_5, c0_6, c0_7, c0_8, c0_9, c0_10, c0_11, rfl⟩ := list12 hl0
  obtain ⟨fuel0, hf0⟩ := h0
  obtain ⟨a0_0, e0_0, w0_0⟩ := leaf_int hlv0 hf0 0 rfl Try.underlying3
  simp [Value.cells] at e0_0
  subst e0_0
  obtain ⟨a0_1, e0_1, w0_1⟩ := leaf_int hlv0 hf0 1 rfl Try.underlying3
  simp [Value.cells] at e0_1
  subst e0_1
  obtain ⟨a0_2, e0_2, w0_2⟩ := leaf_int hlv0 hf0 2 rfl Try.underlying3
  simp [Value.cells] at e0_2
  subst e0_2
  obtain ⟨a0_3, e0_3, w0_3⟩ := leaf_int hlv0 hf0 3 rfl Try.underlying3
  simp [Value.cells] at e0_3
  subst e0_3
  obtain ⟨a0_4, e0_4, w0_4⟩ := leaf_int hlv0 hf0 4 rfl Try.underlying3
  simp [Value.cells] at e0_4
  subst e0_4
  obtain ⟨a0_5, e0_5, w0_5⟩ := leaf_int hlv0 hf0 5 rfl Try.underlying3
  simp [Value.cells] at e0_5
  subst e0_5
  obtain ⟨s0_6, e0_6, m0_6, y0_6, t0_6⟩ := leaf_slice hlv0 hf0 6 rfl Try.underlying44
  simp [Value.cells] at e0_6
  subst e0_6
  obtain ⟨A0_6, len0_6, cap0_6, xs0_6, e0_6x, hlc0_6, hcm0_6, hP0_6, hb0_6⟩ := open_rows (c := 2) Try.underlying44 (by kernel_rfl) (by decide) jointV dJ (fun a => bd64 a.1) (fun hl0 hx0 => el_joint (by kernel_rfl) Try.underlying3 Try.underlying4 hl0 hx0) t0_6
  subst e0_6x
  obtain ⟨s0_7, e0_7, m0_7, y0_7, t0_7⟩ := leaf_slice hlv0 hf0 7 rfl Try.underlying45
  simp [Value.cells] at e0_7
  subst e0_7
  obtain ⟨A0_7, len0_7, cap0_7, xs0_7, e0_7x, hlc0_7, hcm0_7, hP0_7, hb0_7⟩ := open_rows (c := 1) Try.underlying45 (by kernel_rfl) (by decide) int1 0 (fun a => bd64 a) (fun hl0 hx0 => el_int Try.underlying3 hl0 hx0) t0_7
  subst e0_7x
  obtain ⟨s0_8, e0_8, m0_8, y0_8, t0_8⟩ := leaf_slice hlv0 hf0 8 rfl Try.underlying45
  simp [Value.cells] at e0_8
  subst e0_8
  obtain ⟨A0_8, len0_8, cap0_8, xs0_8, e0_8x, hlc0_8, hcm0_8, hP0_8, hb0_8⟩ := open_rows (c := 1) Try.underlying45 (by kernel_rfl) (by decide) int1 0 (fun a => bd64 a) (fun hl0 hx0 => el_int Try.underlying3 hl0 hx0) t0_8
  subst e0_8x
  obtain ⟨a0_9, e0_9, w0_9⟩ := leaf_int hlv0 hf0 9 rfl Try.underlying3
  simp [Value.cells] at e0_9
  subst e0_9
  obtain ⟨a0_10, e0_10, w0_10⟩ := leaf_int hlv0 hf0 10 rfl Try.underlying3
  simp [Value.cells] at e0_10
  subst e0_10
  obtain ⟨s0_11, e0_11, m0_11, y0_11, t0_11⟩ := leaf_slice hlv0 hf0 11 rfl Try.underlying48
  simp [Value.cells] at e0_11
  subst e0_11
  obtain ⟨A0_11, len0_11, cap0_11, xs0_11, e0_11x, hlc0_11, hcm0_11, hP0_11, hb0_11⟩ := open_pairs Try.underlying48 (by kernel_rfl) (by kernel_rfl) Try.underlying3 Try.underlying3 t0_11
  subst e0_11x
  have k1 := h1
  have lt1 : ∀ x ∈ p1, x.block < W.heap.size := by obtain ⟨m, hm⟩ := k1; exact DataW.trod_lt m _ _ _ hm
  obtain ⟨a1, rfl, _, _, w1⟩ := open_int Try.underlying3 (hval 1 3 v1 rfl rfl) h1
  have k2 := h2
  have lt2 : ∀ x ∈ p2, x.block < W.heap.size := by obtain ⟨m, hm⟩ := k2; exact DataW.trod_lt m _ _ _ hm
  obtain ⟨a2, rfl, _, _, w2⟩ := open_int Try.underlying3 (hval 2 3 v2 rfl rfl) h2
  clear hA0 hval0
  refine (hangs_walk a0_0 a0_1 a0_2 a0_3 a0_4 a0_5 A0_6 len0_6 cap0_6 xs0_6 A0_7 len0_7 cap0_7 xs0_7 A0_8 len0_8 cap0_8 xs0_8 a0_9 a0_10 A0_11 len0_11 cap0_11 xs0_11 a1 a2 W w0_0 w0_1 w0_2 w0_3 w0_4 w0_5 ⟨hlc0_6, by unfold maxLen at hcm0_6; omega⟩ hP0_6 hb0_6 ⟨hlc0_7, by unfold maxLen at hcm0_7; omega⟩ (rows_ints hP0_7) hb0_7 ⟨hlc0_8, by unfold maxLen at hcm0_8; omega⟩ (rows_ints hP0_8) hb0_8 w0_9 w0_10 ⟨hlc0_11, by unfold maxLen at hcm0_11; omega⟩ hP0_11 hb0_11 (wf_bd w1) (wf_bd w2)).mono fun e W' ⟨he, bel⟩ => ?_
  subst he
  exact ⟨_, rfl, _, _, _, [], _, [], hW', trodAll_mk1 (shut_bool Try.underlying4 _), (trodAll_cons_mk (Below.trod laidOut (by kernel_rfl) (of_decide_eq_true (by kernel_rfl)) k0 bel lt0) (trodAll_cons_mk (Below.trod laidOut (by kernel_rfl) (of_decide_eq_true (by kernel_rfl)) k1 bel lt1) (trodAll_cons_mk (Below.trod laidOut (by kernel_rfl) (of_decide_eq_true (by kernel_rfl)) k2 bel lt2) trodAll_mk0))), rfl, bel.frame _, fun h => by cases h⟩

theorem holds : Rows.TopHangsSaid :=
  OpenClaim.holds_of_wide 4 Try.f4 rfl rfl rfl rfl rfl rfl rfl ⟨rfl, rfl, rfl, rfl, rfl⟩ rfl rfl rfl rfl rfl (by kernel_rfl) Try.func4 (by kernel_rfl)
    (of_decide_eq_true (by kernel_rfl)) (by unfold Func.isWrapper; first | (rw [if_pos (by decide +kernel)]; kernel_rfl) | (rw [if_neg (by decide +kernel)]; exact ⟨rfl, rfl⟩))
    (fun os started H enc _ => lifted os started H enc)

end Go.Proofs.Ytkphkknlenjjhaa.topHangs
