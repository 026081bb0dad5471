/- Tapes: a tape taken out of a row: Clone, Delete, without. -/
import Derived.Test.YtloogollfconpaaOwnD
import Derived.Test.YtloogollfconpaaStepSrc
import Derived.Test.YtloogollfconpaaNetV
import Derived.Test.YtloogollfconpaaTape7
import Derived.Deep.RegionLaw
import Derived.Shelf.RegionOpenPlain
import Derived.Lib.SliceRun
set_option linter.unusedSimpArgs false
set_option linter.unusedVariables false
namespace Go.Proofs.Ytloogollfconpaa
open Go.RowKit Go.Shelf
attribute [local go_sem] Later.cell Same.cell

set_option maxHeartbeats 2000000 in
theorem cloneT_any (A : Option Addr) (n c : Nat) (l : List Tp) (w : World) (hm : n ≤ 100000) (hx : Rows 3 int3 (0,0,0) w w.heap.size A n l) :
    Calls Try.prog 35 #[.slice A n c] w fun e w' => (∃ v, e = .returned v ∧ w'.ownsRow w.heap.size 37 3 v n (tcells l)) ∧ Below w.heap.size w w' := by
  obtain ⟨i0, hi, hz0, hz1, hz2⟩ := info_parts info_tape
  have hn := hx.1
  have q22 := fun W a n k => Lib.run_eql_slice_nil (P := Try.prog) W 22 37 a n k 0 0 Try.underlying22
  have HC := Lib.hid hx.cellsT
  have HN := Lib.hid hx.nil'
  clear hx
  cases A with
  | none =>
    have hn0 := HN.out rfl
    subst hn0
    have hl0 : l = [] := List.eq_nil_of_length_eq_zero hn
    subst hl0
    clear HC HN hi hz0 hz1 hz2
    go_enter Try.func35, Try.ntmps35
    go_wp2
    go_ret
    exact ⟨⟨_, rfl, World.ownsRow_nil _ _ _ _⟩, Below.refl _ _⟩
  | some ad =>
    go_enter Try.func35, Try.ntmps35
    go_wp2_with (at_builtin; refine wpList_append_src rfl _ _ 22 rfl w.heap.size 37 i0 (.agg #[.int .i64 0, .int .i64 0, .int .i64 0]) 3 24 Try.underlying22 hi hz0 hz1 hz2 rfl (by decide) (.slice (some ⟨w.heap.size, 0, none⟩) 0 0) 0 [] rfl (World.ownsRow_made w #[] 0 (Nat.le_refl _) (Nat.zero_le _) rfl) (by simp) (some ad) n c (tcells l) rfl (by rw [tcells_len, hn]) (by simp) ?qc2 (tcells_one l) (by unfold maxLen; omega) (by omega) (by simp) ?_)
    case qc2 =>
      rcases HC.out with h | ⟨b', off', h1, h2⟩
      · exact .inl h
      · exact .inr ⟨b', off', h1, fun j u hj => Lib.cell?_alloc_some _ (h2 j u hj)⟩
    intro v' w1 hown hgrow hnil
    have hO := Lib.hid hown
    clear hown
    have hB : Below w.heap.size w w1 := ((Below.refl _ w).alloc (Nat.le_refl _) _).grown hgrow (by simp) (by intro k hk; simp [Value.ownBlock] at hk; omega)
    go_wp2
    go_ret
    exact ⟨⟨v', rfl, by simpa using hO.out⟩, hB⟩
theorem tape_z3 : (Builtin.zeroCells (Value.agg #[.int .i64 0, .int .i64 0, .int .i64 0]).cells 1).toList = [.int .i64 0, .int .i64 0, .int .i64 0] := by kernel_rfl
set_option maxRecDepth 100000 in
set_option maxHeartbeats 4000000 in
theorem deleteT_any (g n cap base i : Nat) (l : List Tp) (w : World) (h : w.ownsRow base 37 3 (.slice (some ⟨g, 0, none⟩) n cap) n (tcells l)) (hm : n ≤ 100000) (hi : i < n) (hbw : base ≤ w.heap.size) :
    Calls Try.prog 34 #[.slice (some ⟨g, 0, none⟩) n cap, .int .i64 i, .int .i64 ((i : Int) + 1)] w fun e w' => e = .returned (.slice (some ⟨g, 0, none⟩) (n - 1) cap) ∧
      w'.ownsRow base 37 3 (.slice (some ⟨g, 0, none⟩) (n - 1) cap) (n - 1) (tcells (l.eraseIdx i)) ∧ Below base w w' := by
  obtain ⟨i0, hi0, hz0, hz1, hz2⟩ := info_parts info_tape
  obtain ⟨A', cap', hv, h1, h2, hR, h4⟩ := own_tapes h
  injection hv with e1 e2 e3
  subst e1 e3
  obtain ⟨g', hg', hg1, hg2, hg3⟩ := h4 (by omega)
  cases hg'
  have hln := hR.1
  unfold maxLen at h2
  have hC := hR.cellsT
  obtain ⟨b, off, hb, hcell⟩ : ∃ b off, (some (⟨g, 0, none⟩ : Addr)) = some ⟨b, off, none⟩ ∧ ∀ j u, (tcells l)[j]? = some u → w.cell? ⟨b, off + j, none⟩ = some u := by
    rcases hC with h0 | h0
    · have := congrArg List.length h0
      rw [tcells_len] at this
      simp at this; omega
    · exact h0
  cases hb
  have hcj : ∀ j, j < n * 3 → ∃ u, w.cell? ⟨g, 0 + j, none⟩ = some u := fun j hj => by
    have hl : j < (tcells l).length := by rw [tcells_len]; omega
    exact ⟨_, hcell j _ (List.getElem?_eq_getElem hl)⟩
  obtain ⟨news, hnews⟩ : ∃ news, news = (tcells l).drop ((i + 1) * 3) := ⟨_, rfl⟩
  have hlen : news.length = (n - (i + 1)) * 3 := by rw [hnews, List.length_drop, tcells_len, hln]; omega
  obtain ⟨A, hA, hsrc⟩ : ∃ A : Addr, (if cap = i + 1 then (some ⟨g, 0, none⟩ : Option Addr) else some ⟨g, (i + 1) * 3, none⟩) = some A ∧ Hid (∀ t u, news[t]? = some u → w.drew.cell? (A.add t) = some u) := by
    by_cases hc : cap = i + 1
    · refine ⟨⟨g, 0, none⟩, by simp [hc], Lib.hid fun t u hu => ?_⟩
      have h0 : news.length = 0 := by rw [hlen]; omega
      rw [List.length_eq_zero_iff.1 h0] at hu
      simp at hu
    · refine ⟨⟨g, (i + 1) * 3, none⟩, by simp [hc], Lib.hid fun t u hu => ?_⟩
      rw [hnews, List.getElem?_drop] at hu
      rw [Addr.add_lit]
      have := hcell _ _ hu
      rw [Nat.zero_add] at this
      exact this
  have s1 := Lib.hid hlen
  have s2 : Hid (∀ u ∈ news, u.oneCell' = true) := Lib.hid fun u hu => tcells_one l u (by rw [hnews] at hu; exact List.mem_of_mem_drop hu)
  have s3 : Hid (∀ t, t < news.length → (w.drew.cell? ⟨g, 0 + i * 3 + t, none⟩).isSome = true ∧ w.drew.frozen? ⟨g, 0 + i * 3 + t, none⟩ = false) := Lib.hid fun t ht => by
    rw [hlen] at ht
    obtain ⟨u, hu⟩ := hcj (i * 3 + t) (by omega)
    refine ⟨?_, hg3 _⟩
    rw [Nat.add_assoc]
    show (w.cell? _).isSome = true
    rw [hu]; rfl
  have hrow0 : w.drew.ownsRow base 37 3 (.slice (some ⟨g, 0, none⟩) n cap) n (tcells l) := town_later h (Below.refl _ w).drew
  obtain ⟨W1, hW1⟩ : ∃ W1, W1 = w.drew.setCells g (0 + i * 3) news := ⟨_, rfl⟩
  have hrow1 := own_setL news (tcells l) (0 + i * 3) _ hrow0
  rw [← hW1] at hrow1
  have hrow2 := own_setL [.int .i64 0, .int .i64 0, .int .i64 0] _ ((n - 1) * 3) _ hrow1.1
  have hcut := own_cut (m := n - 1) hrow2.1 (by omega)
  rw [hnews, Nat.zero_add, ← hln, cut_cells l i (by omega)] at hcut
  rw [hln] at hcut
  have HCUT := Lib.hid hcut
  have hgb : ∀ {W W' : World}, W.grownBy W' (some g) → base ≤ W.heap.size → Below base W W' := fun hgr hh => grown_below hgr hh (fun k hk => by cases hk; exact hg1)
  have HBL : Hid (Below base w (W1.setCells g ((n - 1) * 3) [.int .i64 0, .int .i64 0, .int .i64 0])) := Lib.hid (((Below.refl base w).drew.trans (hgb hrow1.2 (by simpa using hbw))).trans (hgb hrow2.2 (by have := hrow1.2.size; simp at this; omega)))
  have hcl : ∀ ty c', (Builtin.clear_ #[22] ty #[.slice (some ⟨g, (n - 1) * 3, none⟩) 1 c']).run Try.prog W1 = .ok (.tuple #[]) (W1.setCells g ((n - 1) * 3) [.int .i64 0, .int .i64 0, .int .i64 0]) := by
    intro ty c'
    refine run_clear3 W1 22 37 ty (.agg #[.int .i64 0, .int .i64 0, .int .i64 0]) Try.underlying22 ?_ _ tape_z3 (by intro v hv; simp at hv; subst hv; rfl) g ((n - 1) * 3) c' ?_ ?_
    · intro w; rfl
    · intro j hj
      have hsz : (setL (tcells l) (0 + i * 3) news).length = n * 3 := by rw [setL_len, tcells_len, hln]
      obtain ⟨A2, cap2, hv2, -, -⟩ := own_tapes (l := l) hrow0
      rcases hrow1.1.2 with ⟨h', _⟩ | ⟨g', cap', cur, h', hb', hg', hnc', hcm', hcs', ht'⟩
      · simp at h'
      · simp only [Value.slice.injEq, Option.some.injEq, Addr.mk.injEq, and_true, true_and] at h'
        obtain ⟨rfl, rfl⟩ := h'
        have hj3 : j < 3 := by simpa using hj
        have : (n - 1) * 3 + j < cur.size := by rw [hcs']; omega
        simp [World.cell?, hg', this]
    · intro j hj
      exact hrow1.1.frozenAt _
  have hE1 : i + (n - (i + 1)) = n - 1 := by omega
  have hE2 : n - (n - 1) = 1 := by omega
  have hcl2 : ∀ ty c', (Builtin.clear_ #[22] ty #[.slice (some ⟨g, (i + (n - (i + 1))) * 3, none⟩) (n - (i + (n - (i + 1)))) c']).run Try.prog W1 = .ok (.tuple #[]) (W1.setCells g ((n - 1) * 3) [.int .i64 0, .int .i64 0, .int .i64 0]) := by
    rw [hE1, hE2]; exact hcl
  have HE1 := Lib.hid hE1
  clear hcl hE1 hE2
  have HW : Hid (W1 = w.drew.setCells g (0 + i * 3) news) := Lib.hid hW1
  have hic : i ≤ cap := by omega
  have hjc : i + 1 ≤ cap := by omega
  have hne : ((i : Int) == (i : Int) + 1) = false := by simp; omega
  have mixed : Try.prog.follows .mixedOrders = true := by kernel_rfl
  have hj0 : 0 ≤ (i : Int) + 1 := by omega
  have hj1 : (i : Int) + 1 ≤ n := by omega
  clear hW1 hrow0 hrow1 hrow2 hcut hnews hlen hcj hC hR h h4 hcell hgb
  go_enter Try.func34, Try.ntmps34
  go_wp2_with fail
  go_region_law_o (refine step_append_room rfl (.tmp 22) (.tmp 25) 22 rfl 37 i0 3 Try.underlying22 hi0 hz1 g 0 i cap (by simp [Act.eval, Act.put]) A (n - (i + 1)) (cap - (i + 1)) news (by simp [Act.eval, Act.put]) s1.out hsrc.out s2.out (by omega) s3.out ?_; rw [← HW.out])
  go_wp2
  go_ret
  rw [HE1.out]
  exact ⟨rfl, HCUT.out, HBL.out⟩
end Go.Proofs.Ytloogollfconpaa
