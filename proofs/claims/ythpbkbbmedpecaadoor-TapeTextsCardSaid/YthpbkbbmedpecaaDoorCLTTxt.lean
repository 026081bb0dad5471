/- TapeTexts: for every input Format and Parse of nets are those of the reference, each text is read back, and the law returns true. No condition but that the tables and errors of the library hold what its own text lays (tied). -/
import Derived.Test.YthpbkbbmedpecaaDoorLTTxt
import Derived.Test.YthpbkbbmedpecaaDoorOpenR
import Derived.Test.YthpbkbbmedpecaaDoorCardS
import Derived.Test.YthpbkbbmedpecaaDoorCards
import Derived.Test.YthpbkbbmedpecaaDoorTie
import Derived.Test.YthpbkbbmedpecaaDoorOpen
import Derived.ShutString
import Derived.ChangeOld
import Derived.Stop.Joined
import Derived.SevenTiedAt
set_option linter.unusedSimpArgs false
set_option linter.unusedVariables false
namespace Go.Proofs.YthpbkbbmedpecaaDoor.tapeTexts
open Go.ChangeShapes Go.WideShapes Go.ChangeAt Go.WideMaps Go.WideElems Go.RowKit Go.ChangeMaps

theorem own : ownKnob Tryd.prog.godebug = none := by kernel_rfl
theorem laidOut : laidOutB Tryd.prog = true := by kernel_rfl

noncomputable def door (os : Os) : World := { World.doorLaid Tryd.prog 400 os with heap := (World.doorLaid Tryd.prog 400 os).heap.modify 3 fun | .cells _ t f => .cells (Pinned.utf8FirstZ.map fun n : Nat => Value.int .u8 (n : Int)).toArray t f | o => o }
def laidL : List (String × DataW Unit) := Rows.tapeTextsRow.laid
theorem door_met (os : Os) (args : Array Value) : laidMetH Tryd.prog laidL ((door os).forCall (fun _ _ => 0) ⟨#[], args, []⟩).memory :=
  laidMetH_of_parts3 (fuel := 8) (laidMet_of_run' 8 (by kernel_rfl) (by kernel_rfl)) (by kernel_rfl) (by kernel_rfl)
theorem of_laid {W : World} (h : laidMetH Tryd.prog laidL W) (hS : W.ShapedOpen Tryd.prog) : TabA W := by
  rw [MakeChecks.laidMetH_plain _ _ _ (by kernel_rfl)] at h
  have h3 := h.tail.tail
  exact ⟨tab_of h3, max_of hS, syntax_of h3.tail.tail.tail, range_of h3.tail.tail⟩
set_option maxRecDepth 100000 in
theorem lifted (os : Os) (started : os.Started) (H : Type) (enc : TypeId × Value → H) :
    ReturnsInHanded {} Tryd.checked os 3 .any (fun w args => (Rows.tapeTextsSpec.pre enc Tryd.prog Tryd.f3 [] false w args ∧ laidMetH Tryd.prog laidL w) ∧ sizedMet enc Tryd.prog Tryd.f3 (OpenSpec.ofChange Rows.tapeTextsSpec) false w args)
      (Rows.tapeTextsSpec.post enc Tryd.prog Tryd.f3 false true false false) := by
  refine handed_and_shaped (C := Tryd.checked) (X := fun w _ => laidMetH Tryd.prog laidL w) (fun _ _ _ hh h => h.of_heap hh) own started (by kernel_rfl) Tryd.func3
    (ChangeSpec.witness_shaped (enc := enc) (C := Tryd.checked) (os := os) (X := fun w _ => laidMetH Tryd.prog laidL w) false (door os) #[.agg #[.int .i64 0, .slice none 0 0], .string ByteArray.empty] 8 rfl (World.shaped_of_RefB (by kernel_rfl) (by kernel_rfl)) (by kernel_rfl) (by kernel_rfl) (by kernel_rfl) (door_met os _)) ?_
  intro W base args ds gs before hval0 hW hL hS
  have hval : ∀ (j : Nat) t v, Tryd.f3.params[j]? = some t → args[j]? = some v → Value.okWide Tryd.prog W .any base t v := hval0
  have hW' := hW
  obtain ⟨p, q, hA0, hV, rfl, hfz, hnd⟩ := hW
  have hA : DataW.TrodAll enc Tryd.prog W 0 (fun _ => true) true Tryd.f3.params.toList args.toList ds p := hA0
  rw [Tryd.params3] at hA hval
  obtain ⟨v0, vs0, d0, ds0, p0, q0, hargs, rfl, rfl, h0, r0⟩ := trodAll_cons hA
  obtain ⟨v1, vs1, d1, ds1, p1, q1, rfl, rfl, rfl, h1, r1⟩ := trodAll_cons r0
  obtain ⟨rfl, rfl, rfl⟩ := trodAll_nil r1
  obtain rfl : args = #[v0, v1] := by cases args; simp_all
  obtain ⟨rfl, rfl⟩ := trodVars_none hV
  have k0 := h0
  have lt0 : ∀ x ∈ p0, x.block < W.heap.size := by obtain ⟨m, hm⟩ := k0; exact DataW.trod_lt m _ _ _ hm
  have hlv0 : leaves Tryd.prog 8 24 = some [3, 22] := by kernel_rfl
  obtain ⟨l0, rfl, hl0⟩ := okWide_agg (n := 2) (by kernel_rfl) hlv0 (by decide) (hval 0 24 v0 rfl rfl)
  obtain ⟨c0_0, c0_1, rfl⟩ := list2 hl0
  obtain ⟨fuel0, hf0⟩ := h0
  obtain ⟨a0_0, e0_0, w0_0⟩ := leaf_int hlv0 hf0 0 rfl Tryd.underlying3
  simp [Value.cells] at e0_0
  subst e0_0
  obtain ⟨s0_1, e0_1, m0_1, y0_1, t0_1⟩ := leaf_slice hlv0 hf0 1 rfl Tryd.underlying22
  simp [Value.cells] at e0_1
  subst e0_1
  obtain ⟨A0_1, len0_1, cap0_1, xs0_1, e0_1x, hlc0_1, hcm0_1, hP0_1, hb0_1⟩ := open_rows (c := 3) Tryd.underlying22 (by kernel_rfl) (by decide) int3 (0,0,0) (fun a => bd64 a.1 ∧ bd64 a.2.1 ∧ bd64 a.2.2) (fun hl0 hx0 => el_int3 (by kernel_rfl) Tryd.underlying3 Tryd.underlying3 Tryd.underlying3 hl0 hx0) t0_1
  subst e0_1x
  have k1 := h1
  have lt1 : ∀ x ∈ p1, x.block < W.heap.size := by obtain ⟨m, hm⟩ := k1; exact DataW.trod_lt m _ _ _ hm
  obtain ⟨a1, rfl, _, _, w1⟩ := open_string Tryd.underlying9 (hval 1 9 v1 rfl rfl) h1
  clear hA0 hval0
  have htab := of_laid hL hS
  refine (texts_row a0_0 A0_1 len0_1 cap0_1 xs0_1 a1 W w0_0 ⟨hlc0_1, by unfold maxLen at hcm0_1; omega⟩ hP0_1 hb0_1 (by have := w1; unfold maxLen at this; exact this) htab).mono fun e W' ⟨he, bel⟩ => ?_
  subst he
  exact ⟨_, rfl, _, _, _, [], _, [], hW', trodAll_mk1 (shut_bool Tryd.underlying4 _), (trodAll_cons_mk (Below.trod laidOut (by kernel_rfl) (of_decide_eq_true (by kernel_rfl)) k0 bel lt0) (trodAll_cons_mk (Below.trod laidOut (by kernel_rfl) (of_decide_eq_true (by kernel_rfl)) k1 bel lt1) trodAll_mk0)), rfl, bel.frame _, fun h => by cases h⟩

theorem row_holds : Rows.TapeTextsSaid :=
  OpenClaim.holds_of_wide 3 Tryd.f3 rfl rfl rfl rfl rfl rfl rfl ⟨rfl, rfl, rfl, rfl, rfl⟩ rfl rfl rfl rfl rfl (by kernel_rfl) Tryd.func3 (by kernel_rfl)
    (of_decide_eq_true (by kernel_rfl)) (by unfold Func.isWrapper; first | (rw [if_pos (by decide +kernel)]; kernel_rfl) | (rw [if_neg (by decide +kernel)]; exact ⟨rfl, rfl⟩))
    (fun os started H enc _ => lifted os started H enc)


theorem holds : Rows.TapeTextsCardSaid :=
  Claim7.holds_tied_plain_at .later [] [.data, .data, .data, .data, .sentinel, .sentinel, .pinned] true (true, "bdc4426780ffda7785a6099c8f529eaf1c0fc04a500934b8f3f403741ebd1bf5") true
    row_holds (fun _ h => by cases h) (by kernel_rfl) (fun _ h => by cases h) tapeTexts_row_tie rfl ⟨rfl, rfl⟩ (by kernel_rfl) rfl
    (fun f fn hf hfn => by
      obtain rfl : f = 3 := Option.some.inj ((show Tryd.prog.funcNamed "steeplejack/steeplejacklaw05.TapeTexts" = some 3 by kernel_rfl).symm.trans hf) |>.symm
      obtain rfl : fn = Tryd.f3 := (Option.some.inj (Tryd.func3.symm.trans hfn)).symm
      exact ⟨by kernel_rfl, fun j t ht => by
        rw [Tryd.params3] at ht
        have hm : t ∈ [24, 9] := by simpa using Array.mem_of_getElem? ht
        have hall : ([24, 9].all fun u => !Tryd.prog.wantsStandIn u) = true := by kernel_rfl
        exact (show Tryd.prog.wantsStandIn t = false by simpa using List.all_eq_true.1 hall t hm)⟩)
    (by kernel_rfl)
end Go.Proofs.YthpbkbbmedpecaaDoor.tapeTexts
