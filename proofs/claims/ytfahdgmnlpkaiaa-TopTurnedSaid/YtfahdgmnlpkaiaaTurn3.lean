/- Turned surveys: Turned of the program. -/
import Derived.Test.YtfahdgmnlpkaiaaTurn2
import Derived.Test.YtfahdgmnlpkaiaaBoxN
set_option linter.unusedSimpArgs false
set_option linter.unusedVariables false
namespace Go.Proofs.Ytfahdgmnlpkaiaa
open Go.RowKit
attribute [local go_sem] Later.cell

theorem info_mark : (Try.prog.info? 51).map (fun i => (i.zero, i.size, i.bytes)) = some (some (.agg #[.int .i64 0, .int .i64 0, .int .i64 0]), 3, 24) := by kernel_rfl
set_option maxRecDepth 20000 in
set_option maxHeartbeats 8000000 in
theorem mTurned_any (A : Option Addr) (len cap : Nat) (l : List Tp) (w : World) (hm : len ≤ 9223372036854775807) (hx : Rows 3 int3 (0,0,0) w w.heap.size A len l) (hv : vM l = true) :
    Calls Try.prog 6 #[.slice A len cap, .int .i64 1] w fun e w' => (∃ v, e = .returned (.tuple #[v, .int .i64 0]) ∧ w'.ownsRow w.heap.size 51 3 v len (tcells (l.map tuM))) ∧ Below w.heap.size w w' := by
  have c1 := mValid_any A len cap l w hm hx
  rw [hv] at c1
  have hll := hx.1
  have hvs : len ≤ 40 ∧ ∀ k, k < len → -10000 ≤ (tpA l k).2.2 ∧ (tpA l k).2.2 ≤ 10000 := by
    unfold vM at hv
    rw [Bool.and_eq_true, List.all_eq_true] at hv
    refine ⟨by have := (withinB_iff.1 hv.2).2; omega, fun k hk => ?_⟩
    have := hv.1 k (List.mem_range.2 (by omega))
    unfold mkX mkB at this
    simp only [Bool.and_eq_true] at this
    exact withinB_iff.1 this.1.2.2
  obtain ⟨hlen, hzb⟩ := hvs
  obtain ⟨j0, hj, hy0, hy1, hy2⟩ := info_parts info_mark
  have hJ0 := Lib.hid hj
  have hJ1 := Lib.hid hy0
  have hJ2 := Lib.hid hy1
  have hJ3 := Lib.hid hy2
  have C1 := Lib.hid c1
  have HX := Lib.hid hx
  have HZ := Lib.hid hzb
  clear c1 hx hv hj hy0 hy1 hy2 hzb
  go_enter Try.func6, Try.ntmps6
  go_wp2_with fail
  refine C1.out.mono ?_
  rintro e w1 ⟨rfl, hb⟩
  have HB1 := Lib.hid hb
  clear hb C1
  go_wp2
  go_loopw [14, 6] (fun i v wr => ∃ k : Nat, k ≤ len ∧ i = .int .i64 k ∧ Hid (wr.ownsRow w1.heap.size 51 3 v k (tcells ((l.map tuM).take k))) ∧ Hid (Below w1.heap.size w1 wr)) (fun i _ _ => len - (intOf i).toNat)
  case atStart => exact ⟨0, Nat.zero_le _, rfl, Lib.hid (World.ownsRow_nil _ _ _ _), Lib.hid (Below.refl _ _)⟩
  case round =>
    obtain ⟨k, hk, rfl, HO, HB⟩ := hrel
    have hs1 := HB1.out.size
    have hws0 := HB.out.size
    obtain ⟨A8, k8, rfl, hq81, hq82, -, hq8⟩ := own_tapes HO.out
    by_cases hlt : k < len
    · obtain ⟨b, off, rfl, hb0, hc0, hc1, hc2⟩ := rows_tp ((HX.out.below HB1.out).below (HB.out.mono hs1)) k hlt
      have hk1 : (k : Int) < len := by omega
      have hz := HZ.out k hlt
      have htk : tcells ((l.map tuM).take k) ++ [.int .i64 (tpA l k).1, .int .i64 (-(tpA l k).2.2), .int .i64 (tpA l k).2.1] = tcells ((l.map tuM).take (k + 1)) := by
        rw [List.take_succ_eq_append_getElem (by rw [List.length_map, hll]; exact hlt), tcells_app]
        congr 1
        rw [List.getElem_map]
        unfold tpA
        rw [List.getElem?_eq_getElem (by rw [hll]; exact hlt)]
        rfl
      have HTK := Lib.hid htk
      generalize (tpA l k).1 = X at *
      generalize (tpA l k).2.1 = Y at *
      generalize (tpA l k).2.2 = Z at *
      have hx0 := BoxN.new wr 51 #[.int .i64 X, .int .i64 Y, .int .i64 Z]
      have hBA : Below wr.heap.size wr (wr.alloc (.cells #[.int .i64 X, .int .i64 Y, .int .i64 Z] 51)) := (Below.refl _ _).alloc (Nat.le_refl _) _
      have hoA := HO.out.alloc (.cells #[.int .i64 X, .int .i64 Y, .int .i64 Z] 51)
      have HBA := Lib.hid (HB.out.trans (hBA.mono hws0))
      have hsA : wr.heap.size < ((wr.alloc (.cells #[.int .i64 X, .int .i64 Y, .int .i64 Z] 51))).heap.size := by simp
      have hng : ∀ g, (Value.slice A8 k k8).ownBlock = some g → g ≠ wr.heap.size := fun g hg => by have := (HO.out.lt g hg).2; omega
      clear htk hBA
      have hbl : b < wr.heap.size := by omega
      go_wp2_with fail
      generalize (wr.alloc (.cells #[.int .i64 X, .int .i64 Y, .int .i64 Z] 51)) = wA at *
      have HO2 := Lib.hid hoA
      have HX0 := Lib.hid hx0
      have q0 := hx0.cell 0
      have q1 := hx0.cell 1
      have q2 := hx0.cell 2
      have f1 := hx0.frozen 1
      have f2 := hx0.frozen 2
      simp at q0 q1 q2
      clear hx0 hoA hc0 hc1 hc2
      go_loopw [22] (fun x wq => (x = .int .i64 0 ∧ wq = wA) ∨ (x = .int .i64 1 ∧ wq = (wA.setCell ⟨wr.heap.size, 1, none⟩ (.int .i64 (-Z))).setCell ⟨wr.heap.size, 2, none⟩ (.int .i64 Y))) (fun x _ => 1 - (intOf x).toNat)
      case atStart => exact .inl ⟨rfl, rfl⟩
      case round =>
        rcases hrel with ⟨rfl, rfl⟩ | ⟨rfl, rfl⟩
        · go_wp2
          go_roundw
          case rel => first | exact .inr ⟨rfl, rfl⟩ | exact .inr ⟨rfl, trivial⟩ | simp
          case measure => simp [intOf]
        · have hx1 := (HX0.out.set 1 (.int .i64 (-Z))).set 2 (.int .i64 Y)
          have HO3 := Lib.hid (own_set_other (own_set_other HO2.out (j := 1) (u := .int .i64 (-Z)) hng) (j := 2) (u := .int .i64 Y) hng)
          have HB3 : Hid (Below w1.heap.size w1 ((wA.setCell ⟨wr.heap.size, 1, none⟩ (.int .i64 (-Z))).setCell ⟨wr.heap.size, 2, none⟩ (.int .i64 Y))) := Lib.hid ((HBA.out.setCell (p := ⟨wr.heap.size, 1, none⟩) (by show w1.heap.size ≤ wr.heap.size; omega) _).setCell (p := ⟨wr.heap.size, 2, none⟩) (by show w1.heap.size ≤ wr.heap.size; omega) _)
          have r0 := hx1.cell 0
          have r1 := hx1.cell 1
          have r2 := hx1.cell 2
          simp at r0 r1 r2
          have hs3 : w1.heap.size ≤ ((wA.setCell ⟨wr.heap.size, 1, none⟩ (.int .i64 (-Z))).setCell ⟨wr.heap.size, 2, none⟩ (.int .i64 Y)).heap.size := HB3.out.size
          clear hx1 q0 q1 q2 f1 f2 HO2 HX0 HBA
          generalize ((wA.setCell ⟨wr.heap.size, 1, none⟩ (.int .i64 (-Z))).setCell ⟨wr.heap.size, 2, none⟩ (.int .i64 Y)) = wB at *
          go_wp2_with (at_builtin; go_loud (refine wpList_append_own _ rfl (.tmp 32) (.tmp 34) 22 rfl w1.heap.size 51 j0 (.agg #[.int .i64 0, .int .i64 0, .int .i64 0]) 3 24 Try.underlying22 hJ0.out hJ1.out hJ2.out hJ3.out rfl (by decide) _ _ _ rfl (HO3.out.alloc _) ⟨wB.heap.size, 0, none⟩ 1 1 [.int .i64 X, .int .i64 (-Z), .int .i64 Y] rfl rfl (tnews3 _ (X, -Z, Y) _) (tone3 (X, -Z, Y)) (by unfold maxLen; omega) (by omega) (by simp; omega) ?_))
          intro v8 w8 hown8 hgrow8 _
          rw [HTK.out] at hown8
          have HO8 := Lib.hid hown8
          have HB8 : Hid (Below w1.heap.size w1 w8) := Lib.hid ((HB3.out.alloc (by omega) (.cells #[.int .i64 X, .int .i64 (-Z), .int .i64 Y] 51)).trans (grown_below hgrow8 (by simp; omega) (fun q hq => ((HO3.out.alloc (.cells #[.int .i64 X, .int .i64 (-Z), .int .i64 Y] 51)).lt q hq).1)))
          clear hown8 hgrow8 HO3 HB3 r0 r1 r2
          go_wp2
          go_roundw
          case rel => exact ⟨k + 1, by omega, by go_num, HO8, HB8⟩
          case measure => simp [intOf]; omega
    · have hkn : k = len := by omega
      have hfin : Hid (wr.ownsRow w1.heap.size 51 3 (.slice A8 k k8) len (tcells (l.map tuM))) := Lib.hid (by
        have := HO.out
        rw [List.take_of_length_le (by rw [List.length_map]; omega)] at this
        rw [← hkn]; exact this)
      have hBB := HB1.out.trans (HB.out.mono hs1)
      subst hkn
      clear HO
      go_wp2
      go_ret2
      exact ⟨⟨_, rfl, sown_mono hfin.out hs1⟩, hBB⟩
end Go.Proofs.Ytfahdgmnlpkaiaa
