/- RopeTackles: for every input ValidTackle, Gain, Lifted, Pull and Hauled of the program and of the reference agree: the law returns true. No condition. -/
import Derived.Test.YthninhkimhnegaaLTackles
import Derived.Test.YthninhkimhnegaaOpen
import Derived.ShutString
import Derived.ChangeOld
set_option linter.unusedSimpArgs false
set_option linter.unusedVariables false
namespace Go.Proofs.Ythninhkimhnegaa.ropeTackles
open Go.ChangeShapes Go.WideShapes Go.ChangeAt Go.RowKit

theorem walk (p k n0 n1 n2 : Int) (w : World) (_ : -9223372036854775808 ≤ p ∧ p ≤ 9223372036854775807) (_ : -9223372036854775808 ≤ k ∧ k ≤ 9223372036854775807) (_ : -9223372036854775808 ≤ n0 ∧ n0 ≤ 9223372036854775807) (_ : -9223372036854775808 ≤ n1 ∧ n1 ≤ 9223372036854775807) (_ : -9223372036854775808 ≤ n2 ∧ n2 ≤ 9223372036854775807) :
    Calls Try.prog 3 #[.agg #[.int .i64 p, .int .i64 k], .agg #[.int .i64 n0, .int .i64 n1, .int .i64 n2]] w fun e w' => e = .returned (.bool true) ∧ Below w.heap.size w w' := law_any p k n0 n1 n2 w

theorem own : ownKnob Try.prog.godebug = none := by kernel_rfl
theorem laidOut : laidOutB Try.prog = true := by kernel_rfl

set_option maxRecDepth 100000 in
theorem lifted (os : Os) (started : os.Started) (H : Type) (enc : TypeId × Value → H) :
    ReturnsInHanded {} Try.checked os 3 .any (Rows.ropeTacklesSpec.pre6 enc Try.prog Try.f3 Rows.ropeTacklesRow.domain false) (Rows.ropeTacklesSpec.post enc Try.prog Try.f3 false true false false) := by
  refine returnsInHanded_of_change (C := Try.checked) own started (by kernel_rfl) Try.func3
    (ChangeSpec.witness6 (enc := enc) (C := Try.checked) false ⟨#[], #[.agg #[.int .i64 0, .int .i64 0], .agg #[.int .i64 0, .int .i64 0, .int .i64 0]], []⟩ 8 (by kernel_rfl) (by kernel_rfl) (by kernel_rfl) (by kernel_rfl)) ?_
  intro W base args ds gs before hval0 hW hcnd _
  have hval : ∀ (j : Nat) t v, Try.f3.params[j]? = some t → args[j]? = some v → Value.okWide Try.prog W .any base t v := hval0
  have hW' := hW
  obtain ⟨p, q, hA0, hV, rfl, hfz, hnd⟩ := hW
  have hA : DataW.TrodAll enc Try.prog W 0 (fun _ => true) true Try.f3.params.toList args.toList ds p := hA0
  rw [Try.params3] at hA hval
  obtain ⟨v0, vs0, d0, ds0, p0, q0, hargs, rfl, rfl, h0, r0⟩ := trodAll_cons hA
  obtain ⟨v1, vs1, d1, ds1, p1, q1, rfl, rfl, rfl, h1, r1⟩ := trodAll_cons r0
  obtain ⟨rfl, rfl, rfl⟩ := trodAll_nil r1
  obtain rfl : args = #[v0, v1] := by cases args; simp_all
  obtain ⟨rfl, rfl⟩ := trodVars_none hV
  have k0 := h0
  have lt0 : ∀ x ∈ p0, x.block < W.heap.size := by obtain ⟨m, hm⟩ := k0; exact DataW.trod_lt m _ _ _ hm
  have hlv0 : leaves Try.prog 8 23 = some [3, 3] := by kernel_rfl
  obtain ⟨l0, rfl, hl0⟩ := okWide_agg (n := 2) (by kernel_rfl) hlv0 (by decide) (hval 0 23 v0 rfl rfl)
  obtain ⟨c0_0, c0_1, rfl⟩ := list2 hl0
  obtain ⟨fuel0, hf0⟩ := h0
  obtain ⟨a0_0, e0_0, w0_0⟩ := leaf_int hlv0 hf0 0 rfl Try.underlying3
  simp [Value.cells] at e0_0
  subst e0_0
  obtain ⟨a0_1, e0_1, w0_1⟩ := leaf_int hlv0 hf0 1 rfl Try.underlying3
  simp [Value.cells] at e0_1
  subst e0_1
  have k1 := h1
  have lt1 : ∀ x ∈ p1, x.block < W.heap.size := by obtain ⟨m, hm⟩ := k1; exact DataW.trod_lt m _ _ _ hm
  have hlv1 : leaves Try.prog 8 24 = some [3, 3, 3] := by kernel_rfl
  obtain ⟨l1, rfl, hl1⟩ := okWide_agg (n := 3) (by kernel_rfl) hlv1 (by decide) (hval 1 24 v1 rfl rfl)
  obtain ⟨c1_0, c1_1, c1_2, rfl⟩ := list3 hl1
  obtain ⟨fuel1, hf1⟩ := h1
  obtain ⟨a1_0, e1_0, w1_0⟩ := leaf_int hlv1 hf1 0 rfl Try.underlying3
  simp [Value.cells] at e1_0
  subst e1_0
  obtain ⟨a1_1, e1_1, w1_1⟩ := leaf_int hlv1 hf1 1 rfl Try.underlying3
  simp [Value.cells] at e1_1
  subst e1_1
  obtain ⟨a1_2, e1_2, w1_2⟩ := leaf_int hlv1 hf1 2 rfl Try.underlying3
  simp [Value.cells] at e1_2
  subst e1_2
  clear hA0 hval0
  refine (walk a0_0 a0_1 a1_0 a1_1 a1_2 W w0_0 w0_1 w1_0 w1_1 w1_2).mono fun e W' ⟨he, bel⟩ => ?_
  subst he
  exact ⟨_, rfl, _, _, _, [], _, [], hW', trodAll_mk1 (shut_bool Try.underlying4 _), (trodAll_cons_mk (Below.trod laidOut (by kernel_rfl) (of_decide_eq_true (by kernel_rfl)) k0 bel lt0) (trodAll_cons_mk (Below.trod laidOut (by kernel_rfl) (of_decide_eq_true (by kernel_rfl)) k1 bel lt1) trodAll_mk0)), rfl, bel.frame _, fun h => by cases h⟩

theorem holds : Rows.RopeTacklesSaid :=
  OpenClaim.holds_of_wide 3 Try.f3 rfl rfl rfl rfl rfl rfl rfl ⟨rfl, rfl, rfl, rfl, rfl⟩ rfl rfl rfl rfl rfl (by kernel_rfl) Try.func3 (by kernel_rfl)
    (of_decide_eq_true (by kernel_rfl)) (by unfold Func.isWrapper; first | (rw [if_pos (by decide +kernel)]; kernel_rfl) | (rw [if_neg (by decide +kernel)]; exact ⟨rfl, rfl⟩))
    (fun os started H enc _ => lifted os started H enc)

end Go.Proofs.Ythninhkimhnegaa.ropeTackles
