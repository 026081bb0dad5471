/- Tapes: the reference's without, Without; Added of both; Same. -/
import Derived.Test.YtpfhfmnlojigpaaRefA
import Derived.Test.YtpfhfmnlojigpaaMix
import Derived.Deep.DeepCutAuto
set_option linter.unusedSimpArgs false
set_option linter.unusedVariables false
namespace Go.Proofs.Ytpfhfmnlojigpaa
open Go.RowKit
attribute [local go_sem] Later.cell Same.cell

theorem cells_sub {w : World} {b off : Nat} {l : List Tp} {xs : List Value} (h : Cells w (some ⟨b, off, none⟩) xs) (k : Nat) (hk : k * 3 ≤ xs.length) : Cells w (some ⟨b, off, none⟩) (xs.take (k * 3)) ∧ Cells w (some ⟨b, off + k * 3, none⟩) (xs.drop (k * 3)) := by
  rcases h with h | ⟨b', off', hh, hc⟩
  · subst h; exact ⟨.inl (by simp), .inl (by simp)⟩
  · cases hh
    refine ⟨.inr ⟨b, off, rfl, fun j u hj => hc j u ?_⟩, .inr ⟨b, off + k * 3, rfl, fun j u hj => ?_⟩⟩
    · rw [List.getElem?_take] at hj
      split at hj
      · exact hj
      · cases hj
    · rw [List.getElem?_drop] at hj
      have := hc _ _ hj
      rw [Nat.add_assoc]; exact this
set_option maxRecDepth 20000 in
set_option maxHeartbeats 4000000 in
theorem rwithout_any (A : Option Addr) (len cap : Nat) (l : List Tp) (i : Nat) (w : World) (hi : i < len) (hcap : len ≤ cap) (hm : len ≤ 10000) (hx : Rows 3 int3 (0,0,0) w w.heap.size A len l) :
    Calls Try.prog 42 #[.slice A len cap, .int .i64 i] w fun e w' => (∃ v, e = .returned v ∧ w'.ownsRow w.heap.size 38 3 v (l.eraseIdx i).length (tcells (l.eraseIdx i))) ∧ Below w.heap.size w w' := by
  obtain ⟨j0, hj, hy0, hy1, hy2⟩ := info_parts info_tape
  have hJ0 := Lib.hid hj
  have hJ1 := Lib.hid hy0
  have hJ2 := Lib.hid hy1
  have hJ3 := Lib.hid hy2
  have hL : (l.eraseIdx i).length = len - 1 := by rw [erase_len (by rw [hx.1]; exact hi), hx.1]
  have hT : tcells (l.eraseIdx i) = (tcells l).take (i * 3) ++ (tcells l).drop ((i + 1) * 3) := by
    have := hx.1
    rw [List.eraseIdx_eq_take_drop_succ, tcells_app, ← tcells_take l i (by omega), ← tcells_drop l (i + 1) (by omega)]
  rw [hL, hT]
  obtain ⟨b, off, rfl, hb0, -⟩ := hx.2 (by omega)
  have htl : (tcells l).length = len * 3 := by rw [tcells_len, hx.1]
  have hc := fun W (h : Below w.heap.size w W) => (hx.below h).cellsT
  have hwi : IntKind.i64.wrap ((i : Int) + 1) = (i : Int) + 1 := IntWalk.i64_in _ (by omega)
  have hj0 : 0 ≤ (i : Int) + 1 := by omega
  have hj1 : (i : Int) + 1 ≤ len := by omega
  have hic : i ≤ cap := by omega
  have hi1 : i + 1 ≤ cap := by omega
  obtain ⟨A3, hA3, hs3⟩ : ∃ A3 : Option Addr, (if cap = i + 1 then (some ⟨b, off, none⟩ : Option Addr) else some ⟨b, off + (i + 1) * 3, none⟩) = A3 ∧ Hid (A3 ≠ none ∧ ∀ W, Below w.heap.size w W → Cells W A3 ((tcells l).drop ((i + 1) * 3))) := by
    by_cases hce : cap = i + 1
    · refine ⟨some ⟨b, off, none⟩, by rw [if_pos hce], Lib.hid ⟨by simp, fun W hW => .inl ?_⟩⟩
      exact List.drop_eq_nil_of_le (by rw [htl]; omega)
    · refine ⟨some ⟨b, off + (i + 1) * 3, none⟩, by rw [if_neg hce], Lib.hid ⟨by simp, fun W hW => (cells_sub (l := l) (hc W hW) (i + 1) (by rw [htl]; omega)).2⟩⟩
  have HC := Lib.hid hc
  have HTL := Lib.hid htl
  clear hj hy0 hy1 hy2 hx hL hT hc htl
  go_enter Try.func42, Try.ntmps42
  go_wp2_with fail
  refine wp_region_mix (by kernel_rfl) (by kernel_rfl) ?_
  refine wpC_take (f := 4) (by kernel_rfl) (by kernel_rfl) ⟨⟨_, (Below.refl _ _).drew⟩, rfl⟩ [1, 2, 3, 5, 6, 7, 8] _ _ (by kernel_rfl) ?_
  simp only [List.map_cons, List.map_nil, List.getElem?_toArray, List.getElem?_cons_succ, List.getElem?_cons_zero, Option.getD_some]
  repeat (go_big_quiet_step (fail))
  refine wpQuiet_nil ?_
  refine wpC_all (rs := [0]) (by kernel_rfl) (by decide) ?_
  intro i hi
  simp only [List.mem_cons, List.not_mem_nil, or_false] at hi
  subst hi
  refine ⟨_, rfl, ?_⟩
  go_simp
  have ho := town_later (World.ownsRow_made (base := w.heap.size) (e := 38) (size := 3) w #[] 0 (Nat.le_refl _) (Nat.zero_le _) rfl) (Below.refl _ _).drew
  have hB : Below w.heap.size w (w.alloc (.cells #[] 38)).drew := ((Below.refl _ w).alloc (Nat.le_refl _) _).drew
  generalize (w.alloc (.cells #[] 38)).drew = WW0 at *
  refine ⟨⟨⟨_, hB⟩, rfl⟩, ?_⟩
  refine wpC_all (rs := [4]) (by kernel_rfl) (by decide) ?_
  intro i hi
  simp only [List.mem_cons, List.not_mem_nil, or_false] at hi
  subst hi
  refine ⟨_, rfl, ?_⟩
  refine wp_append_src (.tmp 5) (.tmp 8) 22 rfl w.heap.size 38 j0 (.agg #[.int .i64 0, .int .i64 0, .int .i64 0]) 3 24 Try.underlying22 hJ0.out hJ1.out hJ2.out hJ3.out rfl (by decide) _ 0 _ (by simp [Act.eval, Act.put]) ho (by simp) (some ⟨b, off, none⟩) i cap ((tcells l).take (i * 3)) (by simp [Act.eval, Act.put]) (by rw [List.length_take, HTL.out]; omega) (by simp) ((cells_sub (l := l) (HC.out _ hB) i (by rw [HTL.out]; omega)).1) (fun u hu => tcells_one l u (List.mem_of_mem_take hu)) (by unfold maxLen; omega) (by omega) hB.size ?_
  intro g1 cap1 WW1 hown hgr hat
  replace hB : Below w.heap.size w WW1 := hB.trans (grown_below hgr hB.size (fun k hk => (ho.lt k hk).1))
  replace ho : WW1.ownsRow w.heap.size 38 3 (.slice (some ⟨g1, 0, none⟩) i cap1) i ((tcells l).take (i * 3)) := by simpa using hown
  clear hown hgr hat
  refine ⟨⟨⟨_, hB⟩, rfl⟩, ?_⟩
  rw [Nat.zero_add]
  go_simp
  refine wpC_all (rs := [9]) (by kernel_rfl) (by decide) ?_
  intro i hi
  simp only [List.mem_cons, List.not_mem_nil, or_false] at hi
  subst hi
  refine ⟨_, rfl, ?_⟩
  refine wp_append_src (.tmp 9) (.tmp 13) 22 rfl w.heap.size 38 j0 (.agg #[.int .i64 0, .int .i64 0, .int .i64 0]) 3 24 Try.underlying22 hJ0.out hJ1.out hJ2.out hJ3.out rfl (by decide) _ i _ (by simp [Act.eval, Act.put]) ho (by simp) A3 (len - (i + 1)) (cap - (i + 1)) ((tcells l).drop ((i + 1) * 3)) (by simp [Act.eval, Act.put]) (by rw [List.length_drop, HTL.out]; omega) (fun h => absurd h hs3.out.1) (hs3.out.2 _ hB) (fun u hu => tcells_one l u (List.mem_of_mem_drop hu)) (by unfold maxLen; omega) (by omega) hB.size ?_
  intro g2 cap2 WW2 hown hgr hat
  replace hB : Below w.heap.size w WW2 := hB.trans (grown_below hgr hB.size (fun k hk => (ho.lt k hk).1))
  have hO : Hid (WW2.ownsRow w.heap.size 38 3 (.slice (some ⟨g2, 0, none⟩) (len - 1) cap2) (len - 1) ((tcells l).take (i * 3) ++ (tcells l).drop ((i + 1) * 3))) := Lib.hid (by have := hown; rwa [show i + (len - (i + 1)) = len - 1 by omega] at this)
  have HE : Hid (i + (len - (i + 1)) = len - 1) := Lib.hid (by omega)
  clear hown hgr hat
  refine ⟨⟨⟨_, hB⟩, rfl⟩, ?_⟩
  go_simp
  refine wpC_take (f := 0) (by kernel_rfl) (by kernel_rfl) ⟨⟨_, hB⟩, rfl⟩ [10] _ _ (by kernel_rfl) ?_
  simp only [List.map_cons, List.map_nil, List.getElem?_toArray, List.getElem?_cons_succ, List.getElem?_cons_zero, Option.getD_some]
  repeat (go_big_quiet_step (fail))
  refine wpQuiet_nil ?_
  refine wpC_done (by kernel_rfl) ?_
  go_wp2_with fail
  go_ret
  refine ⟨⟨_, rfl, ?_⟩, hB⟩
  rw [HE.out]
  exact hO.out
end Go.Proofs.Ytpfhfmnlojigpaa
