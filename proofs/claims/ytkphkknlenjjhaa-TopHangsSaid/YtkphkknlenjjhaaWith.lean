/- Cradles with a man beside the loads. -/
import Derived.Test.YtkphkknlenjjhaaShares
import Derived.Test.YtkphkknlenjjhaaAppend
import Derived.OwnWalk
import Derived.Deep.RegionLawGrows
set_option linter.unusedSimpArgs false
set_option linter.unusedVariables false
namespace Go.Proofs.Ytkphkknlenjjhaa
open Go.RowKit
attribute [local go_sem] Later.cell

theorem info_load' : (Try.prog.info? 57).map (fun i => (i.zero, i.size, i.bytes)) = some (some (.agg #[.int .i64 0, .int .i64 0]), 2, 16) := by kernel_rfl
theorem news2w (W : World) (x y : Value) (t : TypeId) : ∀ j u, ([x, y] : List Value)[j]? = some u → (W.alloc (.cells #[x, y] t)).cell? ((⟨W.heap.size, 0, none⟩ : Addr).add j) = some u := by
  intro j u hj
  match j, hj with
  | 0, hj => simp at hj; subst hj; simp [Addr.add]
  | 1, hj => simp at hj; subst hj; simp [Addr.add]
  | j + 2, hj => simp at hj
theorem one2w (m n : Int) : ∀ u ∈ ([.int .i64 m, .int .i64 n] : List Value), u.oneCell' = true := by
  intro u hu
  simp at hu
  rcases hu with rfl | rfl <;> rfl
theorem Pairs.none' {w : World} {B : Nat} {A : Option Addr} {len : Nat} {xs : List (Int × Int)} (h : Pairs w B A len xs) : A = none → len = 0 := by
  intro hA
  rcases Nat.eq_zero_or_pos len with h0 | h0
  · exact h0
  · obtain ⟨b, off, hb, _⟩ := h.2 h0
    rw [hA] at hb; cases hb
theorem Pairs.olds {w : World} {B : Nat} {A : Option Addr} {len : Nat} {xs : List (Int × Int)} (h : Pairs w B A len xs) : ∀ b, A = some b → ∀ j u, (pcells xs)[j]? = some u → w.cell? (b.add j) = some u := by
  intro b hb j u hj
  rcases h.cells with h0 | ⟨b', off, h1, h2⟩
  · rw [h0] at hj; simp at hj
  · rw [hb] at h1
    cases h1
    rw [Addr.add_lit]
    exact h2 j u hj

set_option maxRecDepth 20000 in
set_option maxHeartbeats 2000000 in
theorem with_any (span : Int) (A : Option Addr) (len cap : Nat) (xs : List (Int × Int)) (at_ wt : Int) (w : World) (hl : len ≤ 20) (hcap : len ≤ cap ∧ cap ≤ 9223372036854775807) (hx : Pairs w w.heap.size A len xs) (hs : 0 ≤ span ∧ span ≤ 100000)
    (hb : ∀ x ∈ xs, 0 ≤ x.1 ∧ x.1 ≤ span ∧ 0 ≤ x.2 ∧ x.2 ≤ 1000000) (ha : 0 ≤ at_ ∧ at_ ≤ span) (hw : 0 ≤ wt ∧ wt ≤ 1000000) :
    Calls Try.prog 29 #[.int .i64 span, .slice A len cap, .agg #[.int .i64 at_, .int .i64 wt]] w fun e w' => e = .returned (.tuple #[.int .i64 (wsum (xs ++ [(at_, wt)]) * span - msum (xs ++ [(at_, wt)])), .int .i64 (msum (xs ++ [(at_, wt)]))]) ∧ Below w.heap.size w w' := by
  have hb2 : ∀ x ∈ xs ++ [(at_, wt)], 0 ≤ x.1 ∧ x.1 ≤ span ∧ 0 ≤ x.2 ∧ x.2 ≤ 1000000 := by
    intro x hx
    rcases List.mem_append.1 hx with h | h
    · exact hb x h
    · simp at h; subst h; exact ⟨ha.1, ha.2, hw.1, hw.2⟩
  have hln : (xs ++ [(at_, wt)]).length = len + 1 := by rw [List.length_append, hx.1]; rfl
  obtain ⟨⟨s1, s2⟩, ⟨s3, s4⟩, ⟨s5, s6⟩, s7⟩ := sums_all (n := 21) hs.1 hs.2 hb2 (by omega)
  rw [s7] at s5 s6
  have c1 := fun A' cap' W (h : Pairs W W.heap.size A' (len + 1) (xs ++ [(at_, wt)])) => moment_any A' (len + 1) cap' (xs ++ [(at_, wt)]) W (by omega) h (fun x hx => by have := hb2 x hx; omega)
  have hpc : Hid (pcells (xs ++ [(at_, wt)]) = pcells xs ++ [.int .i64 at_, .int .i64 wt]) := by show _ = _; rw [pcells_app]; rfl
  generalize hys : xs ++ [(at_, wt)] = ys at *
  clear hys
  generalize wsum ys = S at *
  generalize msum ys = M at *
  have hp0 : 0 ≤ S * span ∧ S * span ≤ 21 * 1000000 * 100000 := ⟨Int.mul_nonneg s1 hs.1, Int.mul_le_mul (by omega) hs.2 hs.1 (by omega)⟩
  obtain ⟨i0, hi, hz0, hz1, hz2⟩ := info_parts info_load'
  have hI0 := Lib.hid hi
  have hI1 := Lib.hid hz0
  have hI2 := Lib.hid hz1
  have hI3 := Lib.hid hz2
  have C1 := Lib.hid c1
  have HX := Lib.hid hx
  have hk1 : (0 : Int) ≤ len := by omega
  have hk2 : (len : Int) ≤ cap := by omega
  have hk3 : ¬ cap < len := by omega
  clear hi hz0 hz1 hz2 c1 hx hb hb2
  go_enter Try.func29, Try.ntmps29
  go_wp2
  go_region_law (first | (refine step_append_grows rfl (.tmp 16) (.tmp 18) 48 rfl 57 i0 (.agg #[.int .i64 0, .int .i64 0]) 2 16 Try.underlying48 hI0.out hI1.out hI2.out hI3.out rfl (by decide) A len len (pcells xs) (by simp [Act.eval, Act.put]) (fun h => ⟨HX.out.none' h, HX.out.none' h⟩) (by rw [pcells_len, HX.out.1]) (HX.out.below (B := w.heap.size) (by repeat (first | exact Below.refl _ _ | assumption | refine Below.setCell ?_ (by first | (simp; done) | (simp; omega) | omega) _ | refine Below.drew ?_ | refine below_drewN ?_ _ | refine Below.alloc ?_ (by first | (simp; done) | (simp; omega) | omega) _ | refine below_alloc ?_ _ | refine below_step ?_ (by assumption)))).olds ⟨w.heap.size + 1, 0, none⟩ 1 1 [.int .i64 at_, .int .i64 wt] (by simp [Act.eval, Act.put]) rfl (by intro j u hj; have h := news2w (w.alloc (.cells #[.int .i64 at_, .int .i64 wt] 57)) _ _ 57 j u hj; simpa using h) (one2w _ _) (by omega) (by unfold maxLen; omega) (by omega) ?_; intro v' w' hown hgrow; have hb4 : Below w.heap.size w w' := Below.trans (b := (((w.alloc (.cells #[.int .i64 at_, .int .i64 wt] 57)).alloc (.cells #[.int .i64 at_, .int .i64 wt] 57)).drew)) (by repeat (first | exact Below.refl _ _ | assumption | refine Below.setCell ?_ (by first | (simp; done) | (simp; omega) | omega) _ | refine Below.drew ?_ | refine below_drewN ?_ _ | refine Below.alloc ?_ (by first | (simp; done) | (simp; omega) | omega) _ | refine below_alloc ?_ _ | refine below_step ?_ (by assumption))) (grown_below hgrow (by simp; omega) (by simp)); rw [← hpc.out] at hown; obtain ⟨A', cap', rfl, hnc, hmx, hP', _⟩ := own_pairs hown; have HP := Lib.hid hP'; clear hP' hown hgrow) | (go_simp; go_at_call 31; refine (C1.out _ _ _ HP.out).mono ?_; rintro e w6 ⟨rfl, hb⟩))
  go_wp2
  go_ret2
  exact ⟨rfl, (by repeat (first | exact Below.refl _ _ | assumption | refine Below.setCell ?_ (by first | (simp; done) | (simp; omega) | omega) _ | refine Below.drew ?_ | refine below_drewN ?_ _ | refine Below.alloc ?_ (by first | (simp; done) | (simp; omega) | omega) _ | refine below_alloc ?_ _ | refine below_step ?_ (by assumption)))⟩
end Go.Proofs.Ytkphkknlenjjhaa
