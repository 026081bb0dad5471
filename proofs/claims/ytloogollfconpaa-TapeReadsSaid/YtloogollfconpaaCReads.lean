/- TapeReads: for every net and readings, Fits and Broken are those of the reference: the law returns true. No condition. -/
import Derived.Test.YtloogollfconpaaRdN
import Derived.Test.YtloogollfconpaaOpenR
import Derived.Test.YtloogollfconpaaChecked
import Derived.Test.YtloogollfconpaaRows
import Derived.Test.YtloogollfconpaaOpen
import Derived.ShutString
import Derived.ChangeOld
set_option linter.unusedSimpArgs false
set_option linter.unusedVariables false
namespace Go.Proofs.Ytloogollfconpaa.tapeReads
open Go.ChangeShapes Go.WideShapes Go.ChangeAt Go.RowKit

theorem own : ownKnob Try.prog.godebug = none := by kernel_rfl
theorem laidOut : laidOutB Try.prog = true := by kernel_rfl

set_option maxRecDepth 100000 in
theorem lifted (os : Os) (started : os.Started) (H : Type) (enc : TypeId × Value → H) :
    ReturnsInHanded {} Try.checked os 3 .any (Rows.tapeReadsSpec.pre6 enc Try.prog Try.f3 Rows.tapeReadsRow.domain false) (Rows.tapeReadsSpec.post enc Try.prog Try.f3 false true false false) := by
  refine returnsInHanded_of_change (C := Try.checked) own started (by kernel_rfl) Try.func3
    (ChangeSpec.witness6 (enc := enc) (C := Try.checked) false ⟨#[], #[.agg #[.int .i64 0, .slice none 0 0], .slice none 0 0], []⟩ 8 (by kernel_rfl) (by kernel_rfl) (by kernel_rfl) (by kernel_rfl)) ?_
  intro W base args ds gs before hval0 hW hcnd _
  have hval : ∀ (j : Nat) t v, Try.f3.params[j]? = some t → args[j]? = some v → Value.okWide Try.prog W .any base t v := hval0
  have hW' := hW
  obtain ⟨p, q, hA0, hV, rfl, hfz, hnd⟩ := hW
  have hA : DataW.TrodAll enc Try.prog W 0 (fun _ => true) true Try.f3.params.toList args.toList ds p := hA0
  rw [Try.params3] at hA hval
  obtain ⟨v0, vs0, d0, ds0, p0, q0, hargs, rfl, rfl, h0, r0⟩ := trodAll_cons hA
  obtain ⟨v1, vs1, d1, ds1, p1, q1, rfl, rfl, rfl, h1, r1⟩ := trodAll_cons r0
  obtain ⟨rfl, rfl, rfl⟩ := trodAll_nil r1
  obtain rfl : args = #[v0, v1] := by cases args; simp_all
  obtain ⟨rfl, rfl⟩ := trodVars_none hV
  have k0 := h0
  have lt0 : ∀ x ∈ p0, x.block < W.heap.size := by obtain ⟨m, hm⟩ := k0; exact DataW.trod_lt m _ _ _ hm
  have hlv0 : leaves Try.prog 8 24 = some [3, 22] := by kernel_rfl
  obtain ⟨l0, rfl, hl0⟩ := okWide_agg (n := 2) (by kernel_rfl) hlv0 (by decide) (hval 0 24 v0 rfl rfl)
  obtain ⟨c0_0, c0_1, rfl⟩ := list2 hl0
  obtain ⟨fuel0, hf0⟩ := h0
  obtain ⟨a0_0, e0_0, w0_0⟩ := leaf_int hlv0 hf0 0 rfl Try.underlying3
  simp [Value.cells] at e0_0
  subst e0_0
  obtain ⟨s0_1, e0_1, m0_1, y0_1, t0_1⟩ := leaf_slice hlv0 hf0 1 rfl Try.underlying22
  simp [Value.cells] at e0_1
  subst e0_1
  obtain ⟨A0_1, len0_1, cap0_1, xs0_1, e0_1x, hlc0_1, hcm0_1, hP0_1, hb0_1⟩ := open_rows (c := 3) Try.underlying22 (by kernel_rfl) (by decide) int3 (0,0,0) (fun a => bd64 a.1 ∧ bd64 a.2.1 ∧ bd64 a.2.2) (fun hl0 hx0 => el_int3 (by kernel_rfl) Try.underlying3 Try.underlying3 Try.underlying3 hl0 hx0) t0_1
  subst e0_1x
  have k1 := h1
  have lt1 : ∀ x ∈ p1, x.block < W.heap.size := by obtain ⟨m, hm⟩ := k1; exact DataW.trod_lt m _ _ _ hm
  obtain ⟨A1, len1, cap1, rfl⟩ := okWide_slice Try.underlying25 (hval 1 25 v1 rfl rfl)
  obtain ⟨fuel1, hf1⟩ := h1
  obtain ⟨xs1, hlc1, hcm1, hP1, hb1⟩ := open_rows_at (c := 6) Try.underlying25 (by kernel_rfl) (by decide) rd6 rd0 (fun a => gRd a) (fun hl0 hx0 => el_rd (by kernel_rfl) Try.underlying3 Try.underlying3 Try.underlying3 Try.underlying3 Try.underlying3 Try.underlying3 hl0 hx0) hf1
  clear hA0 hval0
  refine (reads_walk a0_0 A0_1 len0_1 cap0_1 xs0_1 A1 len1 cap1 xs1 W w0_0 ⟨hlc0_1, by unfold maxLen at hcm0_1; omega⟩ hP0_1 hb0_1 ⟨hlc1, by unfold maxLen at hcm1; omega⟩ hP1 hb1).mono fun e W' ⟨he, bel⟩ => ?_
  subst he
  exact ⟨_, rfl, _, _, _, [], _, [], hW', trodAll_mk1 (shut_bool Try.underlying4 _), (trodAll_cons_mk (Below.trod laidOut (by kernel_rfl) (of_decide_eq_true (by kernel_rfl)) k0 bel lt0) (trodAll_cons_mk (Below.trod laidOut (by kernel_rfl) (of_decide_eq_true (by kernel_rfl)) k1 bel lt1) trodAll_mk0)), rfl, bel.frame _, fun h => by cases h⟩

theorem holds : Rows.TapeReadsSaid :=
  OpenClaim.holds_of_wide 3 Try.f3 rfl rfl rfl rfl rfl rfl rfl ⟨rfl, rfl, rfl, rfl, rfl⟩ rfl rfl rfl rfl rfl (by kernel_rfl) Try.func3 (by kernel_rfl)
    (of_decide_eq_true (by kernel_rfl)) (by unfold Func.isWrapper; first | (rw [if_pos (by decide +kernel)]; kernel_rfl) | (rw [if_neg (by decide +kernel)]; exact ⟨rfl, rfl⟩))
    (fun os started H enc _ => lifted os started H enc)

end Go.Proofs.Ytloogollfconpaa.tapeReads
