/- Tops of layer 5: joined5. -/
import Derived.Test.YtcpnipnaidihaaaTopA
import Derived.Test.YtcpnipnaidihaaaNetG
import Derived.Test.YtcpnipnaidihaaaTape6
import Derived.Test.YtcpnipnaidihaaaStepSrc
import Derived.Test.YtcpnipnaidihaaaMix
import Derived.Deep.DeepCutAuto
import Derived.Maps.AppendAt
set_option linter.unusedSimpArgs false
set_option linter.unusedVariables false
namespace Go.Proofs.Ytcpnipnaidihaaa
open Go.RowKit
attribute [local go_sem] Later.cell Same.cell

theorem own_other {w : World} {base : Nat} {e : TypeId} {size : Nat} {v : Value} {n : Nat} {xs : List Value} (h : w.ownsRow base e size v n xs) {p : Addr} (hp : v.ownBlock ≠ some p.block) (u : Value) : (w.setCell p u).ownsRow base e size v n xs := by
  refine h.kept (row := some p.block) ⟨rfl, rfl, rfl, by simp, fun k hk hne => heap_setCell_other w p k u (fun e => hne (by simp [e]))⟩ ?_
  cases hv : v.ownBlock with
  | none => exact .inl rfl
  | some g => exact .inr (fun hh => hp (by rw [hv]; exact hh))
/-- The joined net at the head of the loop: its block, its row. -/
def JZ (W0 : World) (nz : Int) (k : Nat) (L : List Tp) (zb : Nat) (W : World) : Prop :=
  Below W0.heap.size W0 W ∧ W0.heap.size ≤ zb ∧ zb < W.heap.size ∧ ∃ g cap, g ≠ zb ∧ W.cell? ⟨zb, 0, none⟩ = some (.int .i64 nz) ∧ (∀ o, W.frozen? ⟨zb, o, none⟩ = false) ∧ W.cell? ⟨zb, 1, none⟩ = some (.slice (some ⟨g, 0, none⟩) k cap) ∧ W.ownsRow W0.heap.size 59 3 (.slice (some ⟨g, 0, none⟩) k cap) k (tcells L)
theorem JZ.mk {W0 : World} {nz : Int} {k : Nat} {L : List Tp} {zb : Nat} {W : World} (h1 : Below W0.heap.size W0 W) (h2 : W0.heap.size ≤ zb) (h3 : zb < W.heap.size) (g cap : Nat) (h4 : g ≠ zb) (h5 : W.cell? ⟨zb, 0, none⟩ = some (.int .i64 nz)) (h6 : ∀ o, W.frozen? ⟨zb, o, none⟩ = false) (h7 : W.cell? ⟨zb, 1, none⟩ = some (.slice (some ⟨g, 0, none⟩) k cap)) (h8 : W.ownsRow W0.heap.size 59 3 (.slice (some ⟨g, 0, none⟩) k cap) k (tcells L)) : JZ W0 nz k L zb W := ⟨h1, h2, h3, g, cap, h4, h5, h6, h7, h8⟩
def isPtr (v : Value) (zb : Nat) : Prop := v = .pointer (some ⟨zb, 0, none⟩)
/-- A fresh block for the joined net. -/
def ZB (W : World) (zb : Nat) : Prop := W.heap[zb]? = some (.cells #[.int .i64 0, .slice none 0 0] 24 (0, 0))
theorem ZB.new (W : World) : ZB (W.alloc (.cells #[.int .i64 0, .slice none 0 0] 24)) W.heap.size := by
  show (W.heap.push _)[W.heap.size]? = _
  simp
theorem ZB.lt {W : World} {zb : Nat} (h : ZB W zb) : zb < W.heap.size := (Array.getElem?_eq_some_iff.1 h).1
theorem ZB.grown {W W' : World} {zb : Nat} {row : Option Nat} (h : ZB W zb) (hg : W.grownBy W' row) (hr : row ≠ some zb) : ZB W' zb := (hg.block zb h.lt (fun e => hr e.symm)).trans h
theorem ZB.later {W W' : World} {zb : Nat} (h : ZB W zb) (hb : Below W.heap.size W W') : ZB W' zb := (hb.block zb h.lt).trans h
theorem ZB.cells {W : World} {zb : Nat} (h : ZB W zb) : W.cell? ⟨zb, 0, none⟩ = some (.int .i64 0) ∧ W.cell? ⟨zb, 1, none⟩ = some (.slice none 0 0) ∧ ∀ o, W.frozen? ⟨zb, o, none⟩ = false := by
  unfold ZB at h
  refine ⟨by simp [World.cell?, h], by simp [World.cell?, h], fun o => by simp [World.frozen?, h]⟩
theorem JZ.store {W0 W : World} {nz : Int} {k : Nat} {L : List Tp} {zb g cap : Nat} (hB : Below W0.heap.size W0 W) (hz : ZB W zb) (h0 : W0.heap.size ≤ zb) (ho : W.ownsRow W0.heap.size 59 3 (.slice (some ⟨g, 0, none⟩) k cap) k (tcells L)) (hne : g ≠ zb) :
    JZ W0 nz k L zb ((W.setCell ⟨zb, 0, none⟩ (.int .i64 nz)).setCell ⟨zb, 1, none⟩ (.slice (some ⟨g, 0, none⟩) k cap)) := by
  obtain ⟨c0, c1, cf⟩ := hz.cells
  have hlt := hz.lt
  refine JZ.mk ((hB.setCell h0 _).setCell h0 _) h0 (by simpa using hlt) g cap hne ?_ ?_ ?_ ?_
  · go_simp
  · intro o
    simp [cf o]
  · go_simp
  · refine own_other (own_other ho ?_ _) ?_ _ <;> (simp only [Value.ownBlock]; intro hh; cases hh; exact hne rfl)

set_option maxRecDepth 20000 in
set_option maxHeartbeats 4000000 in
theorem joined5_any (c n m : Int) (A : Option Addr) (len cap : Nat) (l : List Tp) (A2 : Option Addr) (len2 cap2 : Nat) (l2 : List Tp) (w : World) (hc : c = 1 ∨ c = 2) (hn : 0 ≤ n ∧ n ≤ 3) (hm : 0 ≤ m ∧ m ≤ 3)
    (h4 : len ≤ 4) (h5 : len2 ≤ 4) (hl2 : ∀ t ∈ l2, (0 ≤ t.1 ∧ t.1 ≤ 3) ∧ (0 ≤ t.2.1 ∧ t.2.1 ≤ 3))
    (hx : Rows 3 int3 (0,0,0) w w.heap.size A len l) (hy : Rows 3 int3 (0,0,0) w w.heap.size A2 len2 l2) :
    Calls Try.prog 19 #[.agg #[.int .i64 n, .slice A len cap], .agg #[.int .i64 m, .slice A2 len2 cap2], .int .i64 c] w fun e w' => (∃ A' cap', e = .returned (.agg #[.int .i64 (n + m - c), .slice A' (len + len2) cap']) ∧ cap' ≤ maxLen ∧ Rows 3 int3 (0,0,0) w' w'.heap.size A' (len + len2) (l ++ l2.map (sh c n))) ∧ Below w.heap.size w w' := by
  obtain ⟨j0, hj, hy0, hy1, hy2⟩ := info_parts info_tape
  have hJ0 := Lib.hid hj
  have hJ1 := Lib.hid hy0
  have hJ2 := Lib.hid hy1
  have hJ3 := Lib.hid hy2
  have HX := Lib.hid hx
  have HY := Lib.hid hy
  have hk1 : IntKind.i64.wrap (n + m) = n + m := IntWalk.i64_in _ (by omega)
  have hk2 : IntKind.i64.wrap (n + m - c) = n + m - c := IntWalk.i64_in _ (by omega)
  clear hx hy hj hy0 hy1 hy2
  go_enter Try.func19, Try.ntmps19
  go_upto_region 1 with fail
  obtain ⟨W0, hW0⟩ : ∃ W0, W0 = ((w.alloc (.cells #[.int .i64 n, .slice A len cap] 24)).alloc (.cells #[.int .i64 m, .slice A2 len2 cap2] 24)).alloc (.cells #[.int .i64 0, .slice none 0 0] 24) := ⟨_, rfl⟩
  have hs0 : W0.heap.size = w.heap.size + 3 := by rw [hW0]; simp
  have hB0 : Below w.heap.size w W0 := by rw [hW0]; exact (by repeat (first | exact Below.refl _ _ | assumption | refine Below.setCell ?_ (by first | (simp; done) | (simp; omega) | omega) _ | refine Below.drew ?_ | refine below_drewN ?_ _ | refine Below.alloc ?_ (by first | (simp; done) | (simp; omega) | omega) _ | refine below_alloc ?_ _ | refine below_step ?_ (by assumption)))
  have q0 : W0.cell? ⟨w.heap.size, 0, none⟩ = some (.int .i64 n) := by rw [hW0]; go_simp
  have q1 : W0.cell? ⟨w.heap.size, 1, none⟩ = some (.slice A len cap) := by rw [hW0]; go_simp
  have q2 : W0.cell? ⟨w.heap.size + 1, 0, none⟩ = some (.int .i64 m) := by rw [hW0]; go_simp
  have q3 : W0.cell? ⟨w.heap.size + 1, 1, none⟩ = some (.slice A2 len2 cap2) := by rw [hW0]; go_simp
  have q4 : ∀ o, W0.frozen? ⟨w.heap.size + 1 + 1, o, none⟩ = false := fun o => by rw [hW0]; exact World.frozen?_alloc_at _ _ _ _ (by simp)
  have q5 : W0.cell? ⟨w.heap.size + 1 + 1, 0, none⟩ = some (.int .i64 0) := by rw [hW0]; go_simp
  have q6 : W0.cell? ⟨w.heap.size + 1 + 1, 1, none⟩ = some (.slice none 0 0) := by rw [hW0]; go_simp
  have l0 : w.heap.size < W0.heap.size := by omega
  have l1 : w.heap.size + 1 < W0.heap.size := by omega
  have HS0 := Lib.hid hs0
  rw [← hW0]
  clear hs0 hW0
  go_cut [7] (fun s wc => ∃ zb, isPtr s zb ∧ JZ W0 (n + m - c) len l zb wc)
  case first =>
    refine wp_region_mix (by kernel_rfl) (by kernel_rfl) ?_
    refine wpC_take (f := 5) (by kernel_rfl) (by kernel_rfl) ⟨⟨_, (Below.refl _ _).drew⟩, rfl⟩ [0, 1, 2, 3, 4, 5, 6, 8, 9] _ _ (by kernel_rfl) ?_
    simp only [List.map_cons, List.map_nil, List.getElem?_toArray, List.getElem?_cons_succ, List.getElem?_cons_zero, Option.getD_some]
    repeat (go_big_quiet_step (fail))
    refine wpQuiet_nil ?_
    refine wpC_all (rs := [7, 12]) (by kernel_rfl) (by decide) ?_
    intro i hi
    simp only [List.mem_cons, List.not_mem_nil, or_false] at hi
    rcases hi with rfl | rfl
    · refine ⟨_, rfl, ?_⟩
      go_simp
      refine ⟨⟨⟨_, (by repeat (first | exact Below.refl _ _ | assumption | refine Below.setCell ?_ (by first | (simp; done) | (simp; omega) | omega) _ | refine Below.drew ?_ | refine below_drewN ?_ _ | refine Below.alloc ?_ (by first | (simp; done) | (simp; omega) | omega) _ | refine below_alloc ?_ _ | refine below_step ?_ (by assumption)))⟩, rfl⟩, ?_⟩
      have ho := World.ownsRow_made (base := W0.heap.size) (e := 59) (size := 3) W0 #[] 0 (by simp) (by decide) rfl
      have ho := town_later ho (Below.refl _ _).drew
      have hB1 : Below W0.heap.size W0 (W0.alloc (.cells #[] 59)).drew := (by repeat (first | exact Below.refl _ _ | assumption | refine Below.setCell ?_ (by first | (simp; done) | (simp; omega) | omega) _ | refine Below.drew ?_ | refine below_drewN ?_ _ | refine Below.alloc ?_ (by first | (simp; done) | (simp; omega) | omega) _ | refine below_alloc ?_ _ | refine below_step ?_ (by assumption)))
      have hsz1 : W0.heap.size < (W0.alloc (.cells #[] 59)).drew.heap.size := by simp
      generalize (W0.alloc (.cells #[] 59)).drew = W1 at *
      refine wpC_all (rs := [10, 12]) (by kernel_rfl) (by decide) ?_
      intro i hi
      simp only [List.mem_cons, List.not_mem_nil, or_false] at hi
      rcases hi with rfl | rfl
      · refine ⟨_, rfl, ?_⟩
        refine wp_append_src (.tmp 17) (.tmp 19) 22 rfl W0.heap.size 59 j0 (.agg #[.int .i64 0, .int .i64 0, .int .i64 0]) 3 24 Try.underlying22 hJ0.out hJ1.out hJ2.out hJ3.out rfl (by decide) _ 0 [] (by simp [Act.eval, Act.put]) ho (by simp) A len cap (tcells l) (by simp [Act.eval, Act.put]) (by rw [tcells_len, HX.out.1]) (fun h => HX.out.nil' h) ((HX.out.below (B := w.heap.size) (hB0.trans (hB1.mono (by omega)))).cellsT) (tcells_one l) (by unfold maxLen; omega) (by omega) hB1.size ?_
        intro g cap6 w6 hown hgr hat
        have hB6 : Below W0.heap.size W0 w6 := hB1.trans (grown_below hgr hB1.size (fun k hk => (ho.lt k hk).1))
        have ho6 : w6.ownsRow W0.heap.size 59 3 (.slice (some ⟨g, 0, none⟩) len cap6) len (tcells l) := by simpa using hown
        refine ⟨⟨⟨_, (by repeat (first | exact Below.refl _ _ | assumption | refine Below.setCell ?_ (by first | (simp; done) | (simp; omega) | omega) _ | refine Below.drew ?_ | refine below_drewN ?_ _ | refine Below.alloc ?_ (by first | (simp; done) | (simp; omega) | omega) _ | refine below_alloc ?_ _ | refine below_step ?_ (by assumption)))⟩, rfl⟩, ?_⟩
        rw [Nat.zero_add]
        go_simp
        refine wpC_take (f := 2) (by kernel_rfl) (by kernel_rfl) ⟨⟨_, (by repeat (first | exact Below.refl _ _ | assumption | refine Below.setCell ?_ (by first | (simp; done) | (simp; omega) | omega) _ | refine Below.drew ?_ | refine below_drewN ?_ _ | refine Below.alloc ?_ (by first | (simp; done) | (simp; omega) | omega) _ | refine below_alloc ?_ _ | refine below_step ?_ (by assumption)))⟩, rfl⟩ [11] _ _ (by kernel_rfl) ?_
        simp only [List.map_cons, List.map_nil, List.getElem?_toArray, List.getElem?_cons_succ, List.getElem?_cons_zero, Option.getD_some]
        go_big_quiet_step (fail)
        refine wpQuiet_nil ?_
        refine wpC_all (rs := [12]) (by kernel_rfl) (by decide) ?_
        intro i hi
        simp only [List.mem_cons, List.not_mem_nil, or_false] at hi
        subst hi
        refine ⟨_, rfl, ?_⟩
        go_simp
        refine ⟨⟨⟨_, (by repeat (first | exact Below.refl _ _ | assumption | refine Below.setCell ?_ (by first | (simp; done) | (simp; omega) | omega) _ | refine Below.drew ?_ | refine below_drewN ?_ _ | refine Below.alloc ?_ (by first | (simp; done) | (simp; omega) | omega) _ | refine below_alloc ?_ _ | refine below_step ?_ (by assumption)))⟩, rfl⟩, ?_⟩
        have hz := ZB.new w6
        have hzb := hB6.size
        have hB9 := hB6.alloc hzb (.cells #[.int .i64 0, .slice none 0 0] 24)
        have ho9 := ho6.alloc (.cells #[.int .i64 0, .slice none 0 0] 24)
        have hgz : g ≠ w6.heap.size := Nat.ne_of_lt (ho6.lt g rfl).2
        generalize w6.alloc (.cells #[.int .i64 0, .slice none 0 0] 24) = W9 at *
        refine wpC_all (rs := [13]) (by kernel_rfl) (by decide) ?_
        intro i hi
        simp only [List.mem_cons, List.not_mem_nil, or_false] at hi
        subst hi
        refine ⟨_, rfl, ?_⟩
        obtain ⟨z0, z1, zf⟩ := hz.cells
        have zf0 := zf 0
        have zf1 := zf 1
        have hJ := JZ.store (nz := n + m - c) hB9 hz hzb ho9 hgz
        go_simp
        refine ⟨⟨⟨_, hJ.1⟩, rfl⟩, ?_⟩
        refine wpC_done (by kernel_rfl) ?_
        go_wp2_with fail
        go_meet
        case rel => exact ⟨_, rfl, hJ⟩
      · refine ⟨_, rfl, ?_⟩
        go_simp
        refine ⟨⟨⟨_, (by repeat (first | exact Below.refl _ _ | assumption | refine Below.setCell ?_ (by first | (simp; done) | (simp; omega) | omega) _ | refine Below.drew ?_ | refine below_drewN ?_ _ | refine Below.alloc ?_ (by first | (simp; done) | (simp; omega) | omega) _ | refine below_alloc ?_ _ | refine below_step ?_ (by assumption)))⟩, rfl⟩, ?_⟩
        have hz1 := ZB.new W1
        have hzb := hB1.size
        have hzl := hz1.lt
        have hB1 := hB1.alloc hzb (.cells #[.int .i64 0, .slice none 0 0] 24)
        have ho := ho.alloc (.cells #[.int .i64 0, .slice none 0 0] 24)
        generalize (W1.alloc (.cells #[.int .i64 0, .slice none 0 0] 24)) = W2 at *
        refine wpC_all (rs := [10]) (by kernel_rfl) (by decide) ?_
        intro i hi
        simp only [List.mem_cons, List.not_mem_nil, or_false] at hi
        subst hi
        refine ⟨_, rfl, ?_⟩
        refine wp_append_src (.tmp 17) (.tmp 19) 22 rfl W0.heap.size 59 j0 (.agg #[.int .i64 0, .int .i64 0, .int .i64 0]) 3 24 Try.underlying22 hJ0.out hJ1.out hJ2.out hJ3.out rfl (by decide) _ 0 [] (by simp [Act.eval, Act.put]) ho (by simp) A len cap (tcells l) (by simp [Act.eval, Act.put]) (by rw [tcells_len, HX.out.1]) (fun h => HX.out.nil' h) ((HX.out.below (B := w.heap.size) (hB0.trans (hB1.mono (by omega)))).cellsT) (tcells_one l) (by unfold maxLen; omega) (by omega) hB1.size ?_
        intro g cap6 w6 hown hgr hat
        have hB6 : Below W0.heap.size W0 w6 := hB1.trans (grown_below hgr hB1.size (fun k hk => (ho.lt k hk).1))
        have ho6 : w6.ownsRow W0.heap.size 59 3 (.slice (some ⟨g, 0, none⟩) len cap6) len (tcells l) := by simpa using hown
        refine ⟨⟨⟨_, (by repeat (first | exact Below.refl _ _ | assumption | refine Below.setCell ?_ (by first | (simp; done) | (simp; omega) | omega) _ | refine Below.drew ?_ | refine below_drewN ?_ _ | refine Below.alloc ?_ (by first | (simp; done) | (simp; omega) | omega) _ | refine below_alloc ?_ _ | refine below_step ?_ (by assumption)))⟩, rfl⟩, ?_⟩
        rw [Nat.zero_add]
        go_simp
        refine wpC_take (f := 1) (by kernel_rfl) (by kernel_rfl) ⟨⟨_, (by repeat (first | exact Below.refl _ _ | assumption | refine Below.setCell ?_ (by first | (simp; done) | (simp; omega) | omega) _ | refine Below.drew ?_ | refine below_drewN ?_ _ | refine Below.alloc ?_ (by first | (simp; done) | (simp; omega) | omega) _ | refine below_alloc ?_ _ | refine below_step ?_ (by assumption)))⟩, rfl⟩ [11] _ _ (by kernel_rfl) ?_
        simp only [List.map_cons, List.map_nil, List.getElem?_toArray, List.getElem?_cons_succ, List.getElem?_cons_zero, Option.getD_some]
        go_big_quiet_step (fail)
        refine wpQuiet_nil ?_
        have hz : ZB w6 W1.heap.size := hz1.grown hgr (by simp [Value.ownBlock]; omega)
        have hB9 := hB6
        have ho9 := ho6
        have hgz : g ≠ W1.heap.size := by
          rcases hat with hh | hh
          · simp [Value.ownBlock] at hh; omega
          · omega
        refine wpC_all (rs := [13]) (by kernel_rfl) (by decide) ?_
        intro i hi
        simp only [List.mem_cons, List.not_mem_nil, or_false] at hi
        subst hi
        refine ⟨_, rfl, ?_⟩
        obtain ⟨z0, z1, zf⟩ := hz.cells
        have zf0 := zf 0
        have zf1 := zf 1
        have hJ := JZ.store (nz := n + m - c) hB9 hz hzb ho9 hgz
        go_simp
        refine ⟨⟨⟨_, hJ.1⟩, rfl⟩, ?_⟩
        refine wpC_done (by kernel_rfl) ?_
        go_wp2_with fail
        go_meet
        case rel => exact ⟨_, rfl, hJ⟩
    · refine ⟨_, rfl, ?_⟩
      go_simp
      refine ⟨⟨⟨_, (by repeat (first | exact Below.refl _ _ | assumption | refine Below.setCell ?_ (by first | (simp; done) | (simp; omega) | omega) _ | refine Below.drew ?_ | refine below_drewN ?_ _ | refine Below.alloc ?_ (by first | (simp; done) | (simp; omega) | omega) _ | refine below_alloc ?_ _ | refine below_step ?_ (by assumption)))⟩, rfl⟩, ?_⟩
      have hz1 := ZB.new W0
      have hz1 : ZB (W0.alloc (.cells #[.int .i64 0, .slice none 0 0] 24)).drew W0.heap.size := hz1.later (Below.refl _ _).drew
      have hzb : W0.heap.size ≤ W0.heap.size := Nat.le_refl _
      have hzl := hz1.lt
      have hB1 : Below W0.heap.size W0 (W0.alloc (.cells #[.int .i64 0, .slice none 0 0] 24)).drew := (by repeat (first | exact Below.refl _ _ | assumption | refine Below.setCell ?_ (by first | (simp; done) | (simp; omega) | omega) _ | refine Below.drew ?_ | refine below_drewN ?_ _ | refine Below.alloc ?_ (by first | (simp; done) | (simp; omega) | omega) _ | refine below_alloc ?_ _ | refine below_step ?_ (by assumption)))
      have hsz1 : W0.heap.size < (W0.alloc (.cells #[.int .i64 0, .slice none 0 0] 24)).drew.heap.size := by simp
      generalize (W0.alloc (.cells #[.int .i64 0, .slice none 0 0] 24)).drew = W1 at *
      refine wpC_all (rs := [7]) (by kernel_rfl) (by decide) ?_
      intro i hi
      simp only [List.mem_cons, List.not_mem_nil, or_false] at hi
      subst hi
      refine ⟨_, rfl, ?_⟩
      go_simp
      refine ⟨⟨⟨_, (by repeat (first | exact Below.refl _ _ | assumption | refine Below.setCell ?_ (by first | (simp; done) | (simp; omega) | omega) _ | refine Below.drew ?_ | refine below_drewN ?_ _ | refine Below.alloc ?_ (by first | (simp; done) | (simp; omega) | omega) _ | refine below_alloc ?_ _ | refine below_step ?_ (by assumption)))⟩, rfl⟩, ?_⟩
      have ho := World.ownsRow_made (base := W0.heap.size) (e := 59) (size := 3) W1 #[] 0 (by omega) (by decide) rfl
      have hz1 := hz1.later ((Below.refl W1.heap.size W1).alloc (Nat.le_refl _) (.cells #[] 59))
      have hB1 := hB1.alloc hB1.size (.cells #[] 59)
      have hsz2 : W1.heap.size < (W1.alloc (.cells #[] 59)).heap.size := by simp
      generalize (W1.alloc (.cells #[] 59)) = W2 at *
      refine wpC_all (rs := [10]) (by kernel_rfl) (by decide) ?_
      intro i hi
      simp only [List.mem_cons, List.not_mem_nil, or_false] at hi
      subst hi
      refine ⟨_, rfl, ?_⟩
      refine wp_append_src (.tmp 17) (.tmp 19) 22 rfl W0.heap.size 59 j0 (.agg #[.int .i64 0, .int .i64 0, .int .i64 0]) 3 24 Try.underlying22 hJ0.out hJ1.out hJ2.out hJ3.out rfl (by decide) _ 0 [] (by simp [Act.eval, Act.put]) ho (by simp) A len cap (tcells l) (by simp [Act.eval, Act.put]) (by rw [tcells_len, HX.out.1]) (fun h => HX.out.nil' h) ((HX.out.below (B := w.heap.size) (hB0.trans (hB1.mono (by omega)))).cellsT) (tcells_one l) (by unfold maxLen; omega) (by omega) hB1.size ?_
      intro g cap6 w6 hown hgr hat
      have hB6 : Below W0.heap.size W0 w6 := hB1.trans (grown_below hgr hB1.size (fun k hk => (ho.lt k hk).1))
      have ho6 : w6.ownsRow W0.heap.size 59 3 (.slice (some ⟨g, 0, none⟩) len cap6) len (tcells l) := by simpa using hown
      refine ⟨⟨⟨_, (by repeat (first | exact Below.refl _ _ | assumption | refine Below.setCell ?_ (by first | (simp; done) | (simp; omega) | omega) _ | refine Below.drew ?_ | refine below_drewN ?_ _ | refine Below.alloc ?_ (by first | (simp; done) | (simp; omega) | omega) _ | refine below_alloc ?_ _ | refine below_step ?_ (by assumption)))⟩, rfl⟩, ?_⟩
      rw [Nat.zero_add]
      go_simp
      refine wpC_take (f := 1) (by kernel_rfl) (by kernel_rfl) ⟨⟨_, (by repeat (first | exact Below.refl _ _ | assumption | refine Below.setCell ?_ (by first | (simp; done) | (simp; omega) | omega) _ | refine Below.drew ?_ | refine below_drewN ?_ _ | refine Below.alloc ?_ (by first | (simp; done) | (simp; omega) | omega) _ | refine below_alloc ?_ _ | refine below_step ?_ (by assumption)))⟩, rfl⟩ [11] _ _ (by kernel_rfl) ?_
      simp only [List.map_cons, List.map_nil, List.getElem?_toArray, List.getElem?_cons_succ, List.getElem?_cons_zero, Option.getD_some]
      go_big_quiet_step (fail)
      refine wpQuiet_nil ?_
      have hz : ZB w6 W0.heap.size := hz1.grown hgr (by simp [Value.ownBlock]; omega)
      have hB9 := hB6
      have ho9 := ho6
      have hgz : g ≠ W0.heap.size := by
        rcases hat with hh | hh
        · simp [Value.ownBlock] at hh; omega
        · omega
      refine wpC_all (rs := [13]) (by kernel_rfl) (by decide) ?_
      intro i hi
      simp only [List.mem_cons, List.not_mem_nil, or_false] at hi
      subst hi
      refine ⟨_, rfl, ?_⟩
      obtain ⟨z0, z1, zf⟩ := hz.cells
      have zf0 := zf 0
      have zf1 := zf 1
      have hJ := JZ.store (nz := n + m - c) hB9 hz hzb ho9 hgz
      go_simp
      refine ⟨⟨⟨_, hJ.1⟩, rfl⟩, ?_⟩
      refine wpC_done (by kernel_rfl) ?_
      go_wp2_with fail
      go_meet
      case rel => exact ⟨_, rfl, hJ⟩
  case rest =>
    obtain ⟨zb, hp, hJ⟩ := hcut
    unfold isPtr at hp
    subst hp
    have HJ := Lib.hid hJ
    have HL2 := Lib.hid (HY.out.1)
    clear hJ
    go_wp2
    go_loopw [8] (fun i wr => ∃ k : Nat, k ≤ len2 ∧ i = .int .i64 k ∧ JZ W0 (n + m - c) (len + k) (l ++ (l2.take k).map (sh c n)) zb wr) (fun i _ => len2 - (intOf i).toNat)
    case atStart => exact ⟨0, Nat.zero_le _, rfl, by simpa using HJ.out⟩
    case round =>
      obtain ⟨k, hk, rfl, hBr, hzb1, hzb2, g, cap3, hgz, hc0, hfz, hc1, ho⟩ := hrel
      have HO := Lib.hid ho
      have hBs := hBr.size
      have r0 : wr.cell? ⟨w.heap.size, 0, none⟩ = some (.int .i64 n) := (hBr.cell (p := ⟨w.heap.size, 0, none⟩) l0).trans q0
      have r3 : wr.cell? ⟨w.heap.size + 1, 1, none⟩ = some (.slice A2 len2 cap2) := (hBr.cell (p := ⟨w.heap.size + 1, 1, none⟩) l1).trans q3
      have hs0 := HS0.out
      clear ho HJ
      by_cases hlt : k < len2
      · obtain ⟨b0, off, rfl, hb0, hd1, hd2, hd3⟩ := rows_tp (HY.out.below (hB0.trans (hBr.mono (by omega)))) k hlt
        have hkl : k < l2.length := by rw [HL2.out]; exact hlt
        have hT := hl2 (tpA l2 k) (by unfold tpA; rw [List.getElem?_eq_getElem hkl]; exact List.getElem_mem hkl)
        have hsn : (l2.take (k + 1)).map (sh c n) = (l2.take k).map (sh c n) ++ [sh c n (tpA l2 k)] := by rw [take_snoc hkl, List.map_append]; rfl
        generalize tpA l2 k = T at *
        obtain ⟨⟨t1, t2⟩, t3, t4⟩ := hT
        have hk1' : (k : Int) < len2 := by omega
        have hw1 : IntKind.i64.wrap (T.1 + n) = T.1 + n := IntWalk.i64_in _ (by omega)
        have hw2 : IntKind.i64.wrap (T.1 + n - c) = T.1 + n - c := IntWalk.i64_in _ (by omega)
        have hw3 : IntKind.i64.wrap (T.2.1 + n) = T.2.1 + n := IntWalk.i64_in _ (by omega)
        have hw4 : IntKind.i64.wrap (T.2.1 + n - c) = T.2.1 + n - c := IntWalk.i64_in _ (by omega)
        have hn1 : ¬ w.heap.size = wr.heap.size := by omega
        have hn2 : ¬ w.heap.size + 1 = wr.heap.size := by omega
        have hn3 : ¬ zb = wr.heap.size := by omega
        have hn4 : ¬ b0 = wr.heap.size := by omega
        have al : ∀ (b o : Nat) ob, b < wr.heap.size → (wr.alloc ob).cell? ⟨b, o, none⟩ = wr.cell? ⟨b, o, none⟩ := fun b o ob hb => ((Below.refl wr.heap.size wr).alloc (Nat.le_refl _) ob).cell (p := ⟨b, o, none⟩) hb
        have r0' : ∀ ob, (wr.alloc ob).cell? ⟨w.heap.size, 0, none⟩ = some (.int .i64 n) := fun ob => (al _ _ ob (by omega)).trans r0
        have r3' : ∀ ob, (wr.alloc ob).cell? ⟨w.heap.size + 1, 1, none⟩ = some (.slice (some ⟨b0, off, none⟩) len2 cap2) := fun ob => (al _ _ ob (by omega)).trans r3
        have c1' : ∀ ob, (wr.alloc ob).cell? ⟨zb, 1, none⟩ = some (.slice (some ⟨g, 0, none⟩) (len + k) cap3) := fun ob => (al _ _ ob (by omega)).trans hc1
        clear hs0 al
        by_cases ha : c ≤ T.1
        · by_cases hb : c ≤ T.2.1
          · have HTK : Hid ((l2.take (k + 1)).map (sh c n) = (l2.take k).map (sh c n) ++ [((T.1 + n - c), (T.2.1 + n - c), T.2.2)]) := Lib.hid (by rw [hsn]; unfold sh sg; rw [if_pos ha, if_pos hb])
            have ha' : decide (c ≤ T.1) = true := decide_eq_true ha
            have hb' : decide (c ≤ T.2.1) = true := decide_eq_true hb
            clear hsn ha hb
            have HG : Hid (∀ k, k < wr.heap.size → k ≠ g → ∀ w7, World.grownBy ((wr.alloc (.cells #[.int .i64 (T.1 + n - c), .int .i64 (T.2.1 + n - c), .int .i64 T.2.2] 59)).alloc (.cells #[.int .i64 (T.1 + n - c), .int .i64 (T.2.1 + n - c), .int .i64 T.2.2] 59)) w7 (some g) → ∀ o, w7.cell? ⟨k, o, none⟩ = wr.cell? ⟨k, o, none⟩ ∧ w7.frozen? ⟨k, o, none⟩ = wr.frozen? ⟨k, o, none⟩) := Lib.hid (fun k hk hkg w7 hgr o => by
              have h1 := grown_cell hgr (k := k) (by simp; omega) (by simp; omega) o
              have hb2 : Below wr.heap.size wr ((wr.alloc (.cells #[.int .i64 (T.1 + n - c), .int .i64 (T.2.1 + n - c), .int .i64 T.2.2] 59)).alloc (.cells #[.int .i64 (T.1 + n - c), .int .i64 (T.2.1 + n - c), .int .i64 T.2.2] 59)) := (by repeat (first | exact Below.refl _ _ | assumption | refine Below.setCell ?_ (by first | (simp; done) | (simp; omega) | omega) _ | refine Below.drew ?_ | refine below_drewN ?_ _ | refine Below.alloc ?_ (by first | (simp; done) | (simp; omega) | omega) _ | refine below_alloc ?_ _ | refine below_step ?_ (by assumption)))
              exact ⟨h1.1.trans (hb2.cell (p := ⟨k, o, none⟩) hk), h1.2.trans (hb2.frozen (p := ⟨k, o, none⟩) hk)⟩)
            go_wp2_with (at_builtin; go_loud (refine wpList_append_own_at _ rfl (.tmp 59) (.tmp 61) 22 rfl W0.heap.size 59 j0 (.agg #[.int .i64 0, .int .i64 0, .int .i64 0]) 3 24 Try.underlying22 hJ0.out hJ1.out hJ2.out hJ3.out rfl (by decide) _ (len + k) _ rfl ((HO.out.alloc _).alloc _) ⟨wr.heap.size + 1, 0, none⟩ 1 1 (int3 ((T.1 + n - c), (T.2.1 + n - c), T.2.2)) rfl rfl (fun j u hu => by have := tnews3 (wr.alloc (.cells #[.int .i64 (T.1 + n - c), .int .i64 (T.2.1 + n - c), .int .i64 T.2.2] 59)) ((T.1 + n - c), (T.2.1 + n - c), T.2.2) 59 j u hu; simpa [Addr.add] using this) (tone3 _) (by unfold maxLen; omega) (by omega) (by simp; omega) ?_))
            intro v7 w7 hown7 hgrow7 _ hat7
            have hcz := fun o => HG.out zb (by omega) hgz.symm w7 hgrow7 o
            have hz0 : w7.cell? ⟨zb, 0, none⟩ = some (.int .i64 (n + m - c)) := (hcz 0).1.trans hc0
            have hzf : ∀ o, w7.frozen? ⟨zb, o, none⟩ = false := fun o => (hcz o).2.trans (hfz o)
            have hz1 : w7.cell? ⟨zb, 1, none⟩ = some (.slice (some ⟨g, 0, none⟩) (len + k) cap3) := (hcz 1).1.trans hc1
            have hB7 : Below W0.heap.size W0 w7 := ((hBr.alloc hBs _).alloc (by simp; omega) _).trans (grown_below hgrow7 (by simp; omega) (fun q hq => by cases hq; exact (HO.out.lt g rfl).1))
            have hs7 := hgrow7.size
            have hO7 : w7.ownsRow W0.heap.size 59 3 v7 (len + k + 1) (tcells (l ++ (l2.take k).map (sh c n) ++ [((T.1 + n - c), (T.2.1 + n - c), T.2.2)])) := by rw [tcells_app]; first | exact hown7 | (have := hown7; rw [← List.map_take] at this; exact this)
            obtain ⟨A7, cap7, rfl, -, -, -, hg7⟩ := own_tapes hO7
            obtain ⟨g7, rfl, -, hg7b, -⟩ := hg7 (by omega)
            have hgz7 : g7 ≠ zb := by
              rcases hat7 with hh | hh
              · simp [Value.ownBlock] at hh; omega
              · simp [Value.ownBlock] at hh; omega
            have HJ7 : Hid (JZ W0 (n + m - c) (len + (k + 1)) (l ++ (l2.take (k + 1)).map (sh c n)) zb (w7.setCell ⟨zb, 1, none⟩ (.slice (some ⟨g7, 0, none⟩) (len + k + 1) cap7))) := Lib.hid (JZ.mk (hB7.setCell hzb1 _) hzb1 (by simp at hs7 ⊢; omega) g7 cap7 hgz7 (by go_simp) (fun o => by simp [hzf o]) (by go_simp; rfl) (by
              rw [HTK.out, ← List.append_assoc]
              exact own_other hO7 (by simp only [Value.ownBlock]; intro hh; cases hh; exact hgz7 rfl) _))
            have hzf1 := hzf 1
            clear hown7 hgrow7 hO7 hB7 hcz hat7 hzf HG
            go_wp2
            go_roundw
            case rel => exact ⟨k + 1, by omega, by go_num, HJ7.out⟩
            case measure => simp [intOf]; omega
          · have HTK : Hid ((l2.take (k + 1)).map (sh c n) = (l2.take k).map (sh c n) ++ [((T.1 + n - c), T.2.1, T.2.2)]) := Lib.hid (by rw [hsn]; unfold sh sg; rw [if_pos ha, if_neg hb])
            have ha' : decide (c ≤ T.1) = true := decide_eq_true ha
            have hb' : decide (c ≤ T.2.1) = false := decide_eq_false hb
            clear hsn ha hb
            have HG : Hid (∀ k, k < wr.heap.size → k ≠ g → ∀ w7, World.grownBy ((wr.alloc (.cells #[.int .i64 (T.1 + n - c), .int .i64 T.2.1, .int .i64 T.2.2] 59)).alloc (.cells #[.int .i64 (T.1 + n - c), .int .i64 T.2.1, .int .i64 T.2.2] 59)) w7 (some g) → ∀ o, w7.cell? ⟨k, o, none⟩ = wr.cell? ⟨k, o, none⟩ ∧ w7.frozen? ⟨k, o, none⟩ = wr.frozen? ⟨k, o, none⟩) := Lib.hid (fun k hk hkg w7 hgr o => by
              have h1 := grown_cell hgr (k := k) (by simp; omega) (by simp; omega) o
              have hb2 : Below wr.heap.size wr ((wr.alloc (.cells #[.int .i64 (T.1 + n - c), .int .i64 T.2.1, .int .i64 T.2.2] 59)).alloc (.cells #[.int .i64 (T.1 + n - c), .int .i64 T.2.1, .int .i64 T.2.2] 59)) := (by repeat (first | exact Below.refl _ _ | assumption | refine Below.setCell ?_ (by first | (simp; done) | (simp; omega) | omega) _ | refine Below.drew ?_ | refine below_drewN ?_ _ | refine Below.alloc ?_ (by first | (simp; done) | (simp; omega) | omega) _ | refine below_alloc ?_ _ | refine below_step ?_ (by assumption)))
              exact ⟨h1.1.trans (hb2.cell (p := ⟨k, o, none⟩) hk), h1.2.trans (hb2.frozen (p := ⟨k, o, none⟩) hk)⟩)
            go_wp2_with (at_builtin; go_loud (refine wpList_append_own_at _ rfl (.tmp 59) (.tmp 61) 22 rfl W0.heap.size 59 j0 (.agg #[.int .i64 0, .int .i64 0, .int .i64 0]) 3 24 Try.underlying22 hJ0.out hJ1.out hJ2.out hJ3.out rfl (by decide) _ (len + k) _ rfl ((HO.out.alloc _).alloc _) ⟨wr.heap.size + 1, 0, none⟩ 1 1 (int3 ((T.1 + n - c), T.2.1, T.2.2)) rfl rfl (fun j u hu => by have := tnews3 (wr.alloc (.cells #[.int .i64 (T.1 + n - c), .int .i64 T.2.1, .int .i64 T.2.2] 59)) ((T.1 + n - c), T.2.1, T.2.2) 59 j u hu; simpa [Addr.add] using this) (tone3 _) (by unfold maxLen; omega) (by omega) (by simp; omega) ?_))
            intro v7 w7 hown7 hgrow7 _ hat7
            have hcz := fun o => HG.out zb (by omega) hgz.symm w7 hgrow7 o
            have hz0 : w7.cell? ⟨zb, 0, none⟩ = some (.int .i64 (n + m - c)) := (hcz 0).1.trans hc0
            have hzf : ∀ o, w7.frozen? ⟨zb, o, none⟩ = false := fun o => (hcz o).2.trans (hfz o)
            have hz1 : w7.cell? ⟨zb, 1, none⟩ = some (.slice (some ⟨g, 0, none⟩) (len + k) cap3) := (hcz 1).1.trans hc1
            have hB7 : Below W0.heap.size W0 w7 := ((hBr.alloc hBs _).alloc (by simp; omega) _).trans (grown_below hgrow7 (by simp; omega) (fun q hq => by cases hq; exact (HO.out.lt g rfl).1))
            have hs7 := hgrow7.size
            have hO7 : w7.ownsRow W0.heap.size 59 3 v7 (len + k + 1) (tcells (l ++ (l2.take k).map (sh c n) ++ [((T.1 + n - c), T.2.1, T.2.2)])) := by rw [tcells_app]; first | exact hown7 | (have := hown7; rw [← List.map_take] at this; exact this)
            obtain ⟨A7, cap7, rfl, -, -, -, hg7⟩ := own_tapes hO7
            obtain ⟨g7, rfl, -, hg7b, -⟩ := hg7 (by omega)
            have hgz7 : g7 ≠ zb := by
              rcases hat7 with hh | hh
              · simp [Value.ownBlock] at hh; omega
              · simp [Value.ownBlock] at hh; omega
            have HJ7 : Hid (JZ W0 (n + m - c) (len + (k + 1)) (l ++ (l2.take (k + 1)).map (sh c n)) zb (w7.setCell ⟨zb, 1, none⟩ (.slice (some ⟨g7, 0, none⟩) (len + k + 1) cap7))) := Lib.hid (JZ.mk (hB7.setCell hzb1 _) hzb1 (by simp at hs7 ⊢; omega) g7 cap7 hgz7 (by go_simp) (fun o => by simp [hzf o]) (by go_simp; rfl) (by
              rw [HTK.out, ← List.append_assoc]
              exact own_other hO7 (by simp only [Value.ownBlock]; intro hh; cases hh; exact hgz7 rfl) _))
            have hzf1 := hzf 1
            clear hown7 hgrow7 hO7 hB7 hcz hat7 hzf HG
            go_wp2
            go_roundw
            case rel => exact ⟨k + 1, by omega, by go_num, HJ7.out⟩
            case measure => simp [intOf]; omega
        · by_cases hb : c ≤ T.2.1
          · have HTK : Hid ((l2.take (k + 1)).map (sh c n) = (l2.take k).map (sh c n) ++ [(T.1, (T.2.1 + n - c), T.2.2)]) := Lib.hid (by rw [hsn]; unfold sh sg; rw [if_neg ha, if_pos hb])
            have ha' : decide (c ≤ T.1) = false := decide_eq_false ha
            have hb' : decide (c ≤ T.2.1) = true := decide_eq_true hb
            clear hsn ha hb
            have HG : Hid (∀ k, k < wr.heap.size → k ≠ g → ∀ w7, World.grownBy ((wr.alloc (.cells #[.int .i64 T.1, .int .i64 (T.2.1 + n - c), .int .i64 T.2.2] 59)).alloc (.cells #[.int .i64 T.1, .int .i64 (T.2.1 + n - c), .int .i64 T.2.2] 59)) w7 (some g) → ∀ o, w7.cell? ⟨k, o, none⟩ = wr.cell? ⟨k, o, none⟩ ∧ w7.frozen? ⟨k, o, none⟩ = wr.frozen? ⟨k, o, none⟩) := Lib.hid (fun k hk hkg w7 hgr o => by
              have h1 := grown_cell hgr (k := k) (by simp; omega) (by simp; omega) o
              have hb2 : Below wr.heap.size wr ((wr.alloc (.cells #[.int .i64 T.1, .int .i64 (T.2.1 + n - c), .int .i64 T.2.2] 59)).alloc (.cells #[.int .i64 T.1, .int .i64 (T.2.1 + n - c), .int .i64 T.2.2] 59)) := (by repeat (first | exact Below.refl _ _ | assumption | refine Below.setCell ?_ (by first | (simp; done) | (simp; omega) | omega) _ | refine Below.drew ?_ | refine below_drewN ?_ _ | refine Below.alloc ?_ (by first | (simp; done) | (simp; omega) | omega) _ | refine below_alloc ?_ _ | refine below_step ?_ (by assumption)))
              exact ⟨h1.1.trans (hb2.cell (p := ⟨k, o, none⟩) hk), h1.2.trans (hb2.frozen (p := ⟨k, o, none⟩) hk)⟩)
            go_wp2_with (at_builtin; go_loud (refine wpList_append_own_at _ rfl (.tmp 59) (.tmp 61) 22 rfl W0.heap.size 59 j0 (.agg #[.int .i64 0, .int .i64 0, .int .i64 0]) 3 24 Try.underlying22 hJ0.out hJ1.out hJ2.out hJ3.out rfl (by decide) _ (len + k) _ rfl ((HO.out.alloc _).alloc _) ⟨wr.heap.size + 1, 0, none⟩ 1 1 (int3 (T.1, (T.2.1 + n - c), T.2.2)) rfl rfl (fun j u hu => by have := tnews3 (wr.alloc (.cells #[.int .i64 T.1, .int .i64 (T.2.1 + n - c), .int .i64 T.2.2] 59)) (T.1, (T.2.1 + n - c), T.2.2) 59 j u hu; simpa [Addr.add] using this) (tone3 _) (by unfold maxLen; omega) (by omega) (by simp; omega) ?_))
            intro v7 w7 hown7 hgrow7 _ hat7
            have hcz := fun o => HG.out zb (by omega) hgz.symm w7 hgrow7 o
            have hz0 : w7.cell? ⟨zb, 0, none⟩ = some (.int .i64 (n + m - c)) := (hcz 0).1.trans hc0
            have hzf : ∀ o, w7.frozen? ⟨zb, o, none⟩ = false := fun o => (hcz o).2.trans (hfz o)
            have hz1 : w7.cell? ⟨zb, 1, none⟩ = some (.slice (some ⟨g, 0, none⟩) (len + k) cap3) := (hcz 1).1.trans hc1
            have hB7 : Below W0.heap.size W0 w7 := ((hBr.alloc hBs _).alloc (by simp; omega) _).trans (grown_below hgrow7 (by simp; omega) (fun q hq => by cases hq; exact (HO.out.lt g rfl).1))
            have hs7 := hgrow7.size
            have hO7 : w7.ownsRow W0.heap.size 59 3 v7 (len + k + 1) (tcells (l ++ (l2.take k).map (sh c n) ++ [(T.1, (T.2.1 + n - c), T.2.2)])) := by rw [tcells_app]; first | exact hown7 | (have := hown7; rw [← List.map_take] at this; exact this)
            obtain ⟨A7, cap7, rfl, -, -, -, hg7⟩ := own_tapes hO7
            obtain ⟨g7, rfl, -, hg7b, -⟩ := hg7 (by omega)
            have hgz7 : g7 ≠ zb := by
              rcases hat7 with hh | hh
              · simp [Value.ownBlock] at hh; omega
              · simp [Value.ownBlock] at hh; omega
            have HJ7 : Hid (JZ W0 (n + m - c) (len + (k + 1)) (l ++ (l2.take (k + 1)).map (sh c n)) zb (w7.setCell ⟨zb, 1, none⟩ (.slice (some ⟨g7, 0, none⟩) (len + k + 1) cap7))) := Lib.hid (JZ.mk (hB7.setCell hzb1 _) hzb1 (by simp at hs7 ⊢; omega) g7 cap7 hgz7 (by go_simp) (fun o => by simp [hzf o]) (by go_simp; rfl) (by
              rw [HTK.out, ← List.append_assoc]
              exact own_other hO7 (by simp only [Value.ownBlock]; intro hh; cases hh; exact hgz7 rfl) _))
            have hzf1 := hzf 1
            clear hown7 hgrow7 hO7 hB7 hcz hat7 hzf HG
            go_wp2
            go_roundw
            case rel => exact ⟨k + 1, by omega, by go_num, HJ7.out⟩
            case measure => simp [intOf]; omega
          · have HTK : Hid ((l2.take (k + 1)).map (sh c n) = (l2.take k).map (sh c n) ++ [(T.1, T.2.1, T.2.2)]) := Lib.hid (by rw [hsn]; unfold sh sg; rw [if_neg ha, if_neg hb])
            have ha' : decide (c ≤ T.1) = false := decide_eq_false ha
            have hb' : decide (c ≤ T.2.1) = false := decide_eq_false hb
            clear hsn ha hb
            have HG : Hid (∀ k, k < wr.heap.size → k ≠ g → ∀ w7, World.grownBy ((wr.alloc (.cells #[.int .i64 T.1, .int .i64 T.2.1, .int .i64 T.2.2] 59)).alloc (.cells #[.int .i64 T.1, .int .i64 T.2.1, .int .i64 T.2.2] 59)) w7 (some g) → ∀ o, w7.cell? ⟨k, o, none⟩ = wr.cell? ⟨k, o, none⟩ ∧ w7.frozen? ⟨k, o, none⟩ = wr.frozen? ⟨k, o, none⟩) := Lib.hid (fun k hk hkg w7 hgr o => by
              have h1 := grown_cell hgr (k := k) (by simp; omega) (by simp; omega) o
              have hb2 : Below wr.heap.size wr ((wr.alloc (.cells #[.int .i64 T.1, .int .i64 T.2.1, .int .i64 T.2.2] 59)).alloc (.cells #[.int .i64 T.1, .int .i64 T.2.1, .int .i64 T.2.2] 59)) := (by repeat (first | exact Below.refl _ _ | assumption | refine Below.setCell ?_ (by first | (simp; done) | (simp; omega) | omega) _ | refine Below.drew ?_ | refine below_drewN ?_ _ | refine Below.alloc ?_ (by first | (simp; done) | (simp; omega) | omega) _ | refine below_alloc ?_ _ | refine below_step ?_ (by assumption)))
              exact ⟨h1.1.trans (hb2.cell (p := ⟨k, o, none⟩) hk), h1.2.trans (hb2.frozen (p := ⟨k, o, none⟩) hk)⟩)
            go_wp2_with (at_builtin; go_loud (refine wpList_append_own_at _ rfl (.tmp 59) (.tmp 61) 22 rfl W0.heap.size 59 j0 (.agg #[.int .i64 0, .int .i64 0, .int .i64 0]) 3 24 Try.underlying22 hJ0.out hJ1.out hJ2.out hJ3.out rfl (by decide) _ (len + k) _ rfl ((HO.out.alloc _).alloc _) ⟨wr.heap.size + 1, 0, none⟩ 1 1 (int3 (T.1, T.2.1, T.2.2)) rfl rfl (fun j u hu => by have := tnews3 (wr.alloc (.cells #[.int .i64 T.1, .int .i64 T.2.1, .int .i64 T.2.2] 59)) (T.1, T.2.1, T.2.2) 59 j u hu; simpa [Addr.add] using this) (tone3 _) (by unfold maxLen; omega) (by omega) (by simp; omega) ?_))
            intro v7 w7 hown7 hgrow7 _ hat7
            have hcz := fun o => HG.out zb (by omega) hgz.symm w7 hgrow7 o
            have hz0 : w7.cell? ⟨zb, 0, none⟩ = some (.int .i64 (n + m - c)) := (hcz 0).1.trans hc0
            have hzf : ∀ o, w7.frozen? ⟨zb, o, none⟩ = false := fun o => (hcz o).2.trans (hfz o)
            have hz1 : w7.cell? ⟨zb, 1, none⟩ = some (.slice (some ⟨g, 0, none⟩) (len + k) cap3) := (hcz 1).1.trans hc1
            have hB7 : Below W0.heap.size W0 w7 := ((hBr.alloc hBs _).alloc (by simp; omega) _).trans (grown_below hgrow7 (by simp; omega) (fun q hq => by cases hq; exact (HO.out.lt g rfl).1))
            have hs7 := hgrow7.size
            have hO7 : w7.ownsRow W0.heap.size 59 3 v7 (len + k + 1) (tcells (l ++ (l2.take k).map (sh c n) ++ [(T.1, T.2.1, T.2.2)])) := by rw [tcells_app]; first | exact hown7 | (have := hown7; rw [← List.map_take] at this; exact this)
            obtain ⟨A7, cap7, rfl, -, -, -, hg7⟩ := own_tapes hO7
            obtain ⟨g7, rfl, -, hg7b, -⟩ := hg7 (by omega)
            have hgz7 : g7 ≠ zb := by
              rcases hat7 with hh | hh
              · simp [Value.ownBlock] at hh; omega
              · simp [Value.ownBlock] at hh; omega
            have HJ7 : Hid (JZ W0 (n + m - c) (len + (k + 1)) (l ++ (l2.take (k + 1)).map (sh c n)) zb (w7.setCell ⟨zb, 1, none⟩ (.slice (some ⟨g7, 0, none⟩) (len + k + 1) cap7))) := Lib.hid (JZ.mk (hB7.setCell hzb1 _) hzb1 (by simp at hs7 ⊢; omega) g7 cap7 hgz7 (by go_simp) (fun o => by simp [hzf o]) (by go_simp; rfl) (by
              rw [HTK.out, ← List.append_assoc]
              exact own_other hO7 (by simp only [Value.ownBlock]; intro hh; cases hh; exact hgz7 rfl) _))
            have hzf1 := hzf 1
            clear hown7 hgrow7 hO7 hB7 hcz hat7 hzf HG
            go_wp2
            go_roundw
            case rel => exact ⟨k + 1, by omega, by go_num, HJ7.out⟩
            case measure => simp [intOf]; omega
      · have hkn : k = len2 := by omega
        subst hkn
        have htk : l2.take k = l2 := List.take_of_length_le (by rw [HL2.out]; omega)
        have hq4 := fun o => (hBr.frozen (p := ⟨w.heap.size + 1 + 1, o, none⟩) (by show w.heap.size + 1 + 1 < _; omega)).trans (q4 o)
        have hq5 : ∃ u, wr.cell? ⟨w.heap.size + 1 + 1, 0, none⟩ = some u := ⟨_, (hBr.cell (p := ⟨w.heap.size + 1 + 1, 0, none⟩) (by show w.heap.size + 1 + 1 < _; omega)).trans q5⟩
        have q5' := (hBr.cell (p := ⟨w.heap.size + 1 + 1, 0, none⟩) (by show w.heap.size + 1 + 1 < _; omega)).trans q5
        have q6' := (hBr.cell (p := ⟨w.heap.size + 1 + 1, 1, none⟩) (by show w.heap.size + 1 + 1 < _; omega)).trans q6
        have hf0 := hq4 0
        have hf1 := hq4 1
        have hB : Below w.heap.size w wr := hB0.trans (hBr.mono (by omega))
        have hsh : Hid (wr.ownsRow W0.heap.size 59 3 (.slice (some ⟨g, 0, none⟩) (len + k) cap3) (len + k) (tcells (l ++ l2.map (sh c n)))) := by
          have := HO
          rw [htk] at this; exact this
        have hn6 : ¬ zb = w.heap.size + 1 + 1 := by omega
        clear hq4 hq5 htk hs0
        go_wp2
        have hne9 : ∀ o, (Value.slice (some ⟨g, 0, none⟩) (len + k) cap3).ownBlock ≠ some (⟨w.heap.size + 1 + 1, o, none⟩ : Addr).block := fun o hh => by
          have := (hsh.out.lt g rfl).1; have h3 := HS0.out
          simp [Value.ownBlock] at hh; omega
        have ho9 := own_other (own_other hsh.out (hne9 0) (.int .i64 (n + m - c))) (hne9 1) (.slice (some ⟨g, 0, none⟩) (len + k) cap3)
        obtain ⟨A9, cap9, hv9, -, hm9, hR9, -⟩ := own_tapes ho9
        injection hv9 with e1 e2 e3
        subst e1 e3
        have hB9 : Below W0.heap.size wr wr := Below.refl _ _
        refine bodyPost_ret (v := .agg #[.int .i64 (n + m - c), .slice (some ⟨g, 0, none⟩) (len + k) cap3]) (by simp [results, Try.results19, go_sem, *]) rfl ⟨⟨_, _, rfl, hm9, ?_⟩, (by repeat (first | exact Below.refl _ _ | assumption | refine Below.setCell ?_ (by first | (simp; done) | (simp; omega) | omega) _ | refine Below.drew ?_ | refine below_drewN ?_ _ | refine Below.alloc ?_ (by first | (simp; done) | (simp; omega) | omega) _ | refine below_alloc ?_ _ | refine below_step ?_ (by assumption)))⟩
        exact hR9
end Go.Proofs.Ytcpnipnaidihaaa
