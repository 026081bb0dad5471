/- TopTurned: the row over the walk. -/
import Derived.Test.YtfahdgmnlpkaiaaLTurned
import Derived.Test.YtfahdgmnlpkaiaaOpenC
import Derived.Test.YtfahdgmnlpkaiaaChecked
import Derived.Test.YtfahdgmnlpkaiaaRows
import Derived.Test.YtfahdgmnlpkaiaaOpen
import Derived.ShutString
import Derived.ChangeOld
set_option linter.unusedSimpArgs false
set_option linter.unusedVariables false
namespace Go.Proofs.Ytfahdgmnlpkaiaa.topTurned
open Go.ChangeShapes Go.WideShapes Go.ChangeAt Go.RowKit

theorem own : ownKnob Try.prog.godebug = none := by kernel_rfl
theorem laidOut : laidOutB Try.prog = true := by kernel_rfl

set_option maxRecDepth 100000 in
theorem lifted (os : Os) (started : os.Started) (H : Type) (enc : TypeId × Value → H) :
    ReturnsInHanded {} Try.checked os 3 .any (Rows.topTurnedSpec.pre6 enc Try.prog Try.f3 Rows.topTurnedRow.domain false) (Rows.topTurnedSpec.post enc Try.prog Try.f3 false true false false) := by
  refine returnsInHanded_of_change (C := Try.checked) own started (by kernel_rfl) Try.func3
    (ChangeSpec.witness6 (enc := enc) (C := Try.checked) false ⟨#[], #[.slice none 0 0, .slice none 0 0, .agg #[.int .i64 0, .int .i64 0, .int .i64 0]], []⟩ 8 (by kernel_rfl) (by kernel_rfl) (by kernel_rfl) (by kernel_rfl)) ?_
  intro W base args ds gs before hval0 hW hcnd _
  have hval : ∀ (j : Nat) t v, Try.f3.params[j]? = some t → args[j]? = some v → Value.okWide Try.prog W .any base t v := hval0
  have hW' := hW
  obtain ⟨p, q, hA0, hV, rfl, hfz, hnd⟩ := hW
  have hA : DataW.TrodAll enc Try.prog W 0 (fun _ => true) true Try.f3.params.toList args.toList ds p := hA0
  rw [Try.params3] at hA hval
  obtain ⟨v0, vs0, d0, ds0, p0, q0, hargs, rfl, rfl, h0, r0⟩ := trodAll_cons hA
  obtain ⟨v1, vs1, d1, ds1, p1, q1, rfl, rfl, rfl, h1, r1⟩ := trodAll_cons r0
  obtain ⟨v2, vs2, d2, ds2, p2, q2, rfl, rfl, rfl, h2, r2⟩ := trodAll_cons r1
  obtain ⟨rfl, rfl, rfl⟩ := trodAll_nil r2
  obtain rfl : args = #[v0, v1, v2] := by cases args; simp_all
  obtain ⟨rfl, rfl⟩ := trodVars_none hV
  have k0 := h0
  have lt0 : ∀ x ∈ p0, x.block < W.heap.size := by obtain ⟨m, hm⟩ := k0; exact DataW.trod_lt m _ _ _ hm
  obtain ⟨A0, len0, cap0, rfl⟩ := okWide_slice Try.underlying22 (hval 0 22 v0 rfl rfl)
  obtain ⟨fuel0, hf0⟩ := h0
  obtain ⟨xs0, hlc0, hcm0, hP0, hb0⟩ := open_rows_at (c := 3) Try.underlying22 (by kernel_rfl) (by decide) int3 (0,0,0) (fun a => bd64 a.1 ∧ bd64 a.2.1 ∧ bd64 a.2.2) (fun hl0 hx0 => el_int3 (by kernel_rfl) Try.underlying3 Try.underlying3 Try.underlying3 hl0 hx0) hf0
  have k1 := h1
  have lt1 : ∀ x ∈ p1, x.block < W.heap.size := by obtain ⟨m, hm⟩ := k1; exact DataW.trod_lt m _ _ _ hm
  obtain ⟨A1, len1, cap1, rfl⟩ := okWide_slice Try.underlying23 (hval 1 23 v1 rfl rfl)
  obtain ⟨fuel1, hf1⟩ := h1
  obtain ⟨xs1, hlc1, hcm1, hP1, hb1⟩ := open_rows_at (c := 6) Try.underlying23 (by kernel_rfl) (by decide) c6V dC (fun a => True) (fun hl0 hx0 => el_cs (by kernel_rfl) Try.underlying3 Try.underlying3 Try.underlying3 Try.underlying3 Try.underlying3 Try.underlying3 hl0 hx0) hf1
  have k2 := h2
  have lt2 : ∀ x ∈ p2, x.block < W.heap.size := by obtain ⟨m, hm⟩ := k2; exact DataW.trod_lt m _ _ _ hm
  have hlv2 : leaves Try.prog 8 24 = some [3, 3, 3] := by kernel_rfl
  obtain ⟨l2, rfl, hl2⟩ := okWide_agg (n := 3) (by kernel_rfl) hlv2 (by decide) (hval 2 24 v2 rfl rfl)
  obtain ⟨c2_0, c2_1, c2_2, rfl⟩ := list3 hl2
  obtain ⟨fuel2, hf2⟩ := h2
  obtain ⟨a2_0, e2_0, w2_0⟩ := leaf_int hlv2 hf2 0 rfl Try.underlying3
  simp [Value.cells] at e2_0
  subst e2_0
  obtain ⟨a2_1, e2_1, w2_1⟩ := leaf_int hlv2 hf2 1 rfl Try.underlying3
  simp [Value.cells] at e2_1
  subst e2_1
  obtain ⟨a2_2, e2_2, w2_2⟩ := leaf_int hlv2 hf2 2 rfl Try.underlying3
  simp [Value.cells] at e2_2
  subst e2_2
  clear hA0 hval0
  refine (turned_walk A0 len0 cap0 xs0 A1 len1 cap1 xs1 a2_0 a2_1 a2_2 W ⟨hlc0, by unfold maxLen at hcm0; omega⟩ hP0 hb0 ⟨hlc1, by unfold maxLen at hcm1; omega⟩ hP1 hb1 w2_0 w2_1 w2_2).mono fun e W' ⟨he, bel⟩ => ?_
  subst he
  exact ⟨_, rfl, _, _, _, [], _, [], hW', trodAll_mk1 (shut_bool Try.underlying4 _), (trodAll_cons_mk (Below.trod laidOut (by kernel_rfl) (of_decide_eq_true (by kernel_rfl)) k0 bel lt0) (trodAll_cons_mk (Below.trod laidOut (by kernel_rfl) (of_decide_eq_true (by kernel_rfl)) k1 bel lt1) (trodAll_cons_mk (Below.trod laidOut (by kernel_rfl) (of_decide_eq_true (by kernel_rfl)) k2 bel lt2) trodAll_mk0))), rfl, bel.frame _, fun h => by cases h⟩

theorem holds : Rows.TopTurnedSaid :=
  OpenClaim.holds_of_wide 3 Try.f3 rfl rfl rfl rfl rfl rfl rfl ⟨rfl, rfl, rfl, rfl, rfl⟩ rfl rfl rfl rfl rfl (by kernel_rfl) Try.func3 (by kernel_rfl)
    (of_decide_eq_true (by kernel_rfl)) (by unfold Func.isWrapper; first | (rw [if_pos (by decide +kernel)]; kernel_rfl) | (rw [if_neg (by decide +kernel)]; exact ⟨rfl, rfl⟩))
    (fun os started H enc _ => lifted os started H enc)

end Go.Proofs.Ytfahdgmnlpkaiaa.topTurned
