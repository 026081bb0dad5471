/- The iterator of tensions, and lifted, which ranges over it. -/
import Derived.Test.YtolamhjbpdjgeaaDoorTac
import Derived.RangeFuncNested
import Derived.RangeFuncBound
import Derived.RangeFuncCalls
import Derived.RangeFuncLeaves
import Derived.RangeFuncFrom
import Derived.Shelf.Abstract
import Derived.OwnWalkIn
import Derived.TacticsInMore
import Derived.LoopNIn
import Derived.LoopIn
namespace Go.Proofs.YtolamhjbpdjgeaaDoor
open Go.RowKit Go.Shelf
attribute [local go_sem] Oper.semAt_some

theorem grownBy_of_below {W w1 : World} (h : Below W.heap.size W w1) : W.grownBy w1 none := ⟨h.os, h.tape, h.output, h.size, fun k hk _ => h.block k hk⟩
/-- Block b lies as it lay. -/
def KeepBlk (b : Nat) (A B : World) : Prop := B.heap[b]? = A.heap[b]?
theorem KeepBlk.t {b : Nat} {A B C : World} (h : KeepBlk b A B) (k : KeepBlk b B C) : KeepBlk b A C := Eq.trans k h
theorem KeepBlk.b {b : Nat} {w : World} (hb : b < w.heap.size) (W : World) (l : Nat) (o o' : Obj) (hl : w.heap.size ≤ l) (_ : W.heap[l]? = some o) (_ : o.isCells = false) (_ : o.isWalk = false) : KeepBlk b W (W.putObj l o') :=
  World.putObj_heap_other (by omega)
/-- The tension of part i (from 0), times 100 ^ (p - 1). -/
def tval (p : Nat) (k : Int) (i : Nat) : Int := 100 ^ (p - 1 - i) * k ^ i
def tvals (p : Nat) (k : Int) (m : Nat) : List Int := (List.range m).map (tval p k)
theorem tvals_succ (p : Nat) (k : Int) (m : Nat) : tvals p k (m + 1) = tvals p k m ++ [tval p k m] := by simp [tvals, List.range_succ]
theorem tval_zero (p : Nat) (k : Int) : tval p k 0 = 100 ^ (p - 1) := by simp [tval]
theorem tval_next {p : Nat} {k : Int} {i : Nat} (h : i + 1 < p) : tval p k i / 100 * k = tval p k (i + 1) := by
  unfold tval
  have e : p - 1 - i = (p - 1 - (i + 1)) + 1 := by omega
  rw [e, Int.pow_succ, Int.pow_succ, Int.mul_right_comm, Int.mul_ediv_cancel _ (by decide), Int.mul_assoc]
theorem kpow_le {k : Int} (h1 : 1 ≤ k) (h2 : k ≤ 100) (i : Nat) : 1 ≤ k ^ i ∧ k ^ i ≤ 100 ^ i := by
  induction i with
  | zero => simp
  | succ i ih =>
    rw [Int.pow_succ, Int.pow_succ]
    constructor
    · have := Int.mul_le_mul_of_nonneg_left h1 (show (0 : Int) ≤ k ^ i by omega)
      omega
    · exact Int.mul_le_mul ih.2 h2 (by omega) (Int.pow_nonneg (by decide))
theorem tval_bd {p : Nat} {k : Int} {i : Nat} (h1 : 1 ≤ k) (h2 : k ≤ 100) (hp : p ≤ 6) (hi : i < p) : 1 ≤ tval p k i ∧ tval p k i ≤ 10000000000 := by
  unfold tval
  have a := kpow_le h1 h2 i
  have b := pow100_le (m := p - 1 - i) (by omega)
  have c := pow100_le (m := p - 1) (by omega)
  have e : (100 : Int) ^ (p - 1) = 100 ^ (p - 1 - i) * 100 ^ i := by rw [← Int.pow_add]; congr 1; omega
  constructor
  · have := Int.mul_le_mul_of_nonneg_left a.1 (show (0 : Int) ≤ 100 ^ (p - 1 - i) by omega)
    omega
  · have := Int.mul_le_mul_of_nonneg_left a.2 (show (0 : Int) ≤ 100 ^ (p - 1 - i) by omega)
    omega

set_option maxRecDepth 100000 in
set_option maxHeartbeats 1000000 in
theorem tens1_in (n : Nat) (hn : 1 ≤ n) (l Bn p : Nat) (k : Int) (h1 : 1 ≤ p) (h2 : p ≤ 6) (h3 : 1 ≤ k) (h4 : k ≤ 100) (J Jx : List Int → World → Prop)
    (W : World) (hJ : AbidesFrom W.heap.size J) (hn0 : Bn < W.heap.size)
    (hY : ∀ pre x W, J pre W → pre.length < p → YieldAt Fence.wide (n - 1) Tryd.prog l #[.int .i64 x] W fun e W' =>
      (e = .returned (.bool true) ∧ J (pre ++ [x]) W' ∧ KeepBlk Bn W W') ∨ (e = .returned (.bool false) ∧ Jx (pre ++ [x]) W'))
    (hc0 : W.cell? ⟨Bn, 0, none⟩ = some (.int .i64 p)) (hc1 : W.cell? ⟨Bn, 1, none⟩ = some (.int .i64 k)) (h0 : J [] W) :
    CallsIn Fence.wide n Tryd.prog 44 #[.func (.yield l) #[] #[], .pointer (some ⟨Bn, 0, none⟩)] W fun e W' => (∃ v, e = .returned v) ∧
      ((∃ ys, ys = tvals p k p ∧ J ys W') ∨ (∃ pre, True ∧ Jx pre W')) := by
  refine callsIn_of_wp Tryd.func44 rfl trivial ?_ rfl
  simp only [Tryd.ntmps44, List.size_toArray, List.length_cons, List.length_nil, Nat.reduceAdd, Nat.reduceSub, Array.replicate_succ, Array.replicate_zero, List.push_toArray, List.append_toArray, List.nil_append, List.cons_append]
  gi_wp2_with (refine ⟨trivial, ?_⟩; gi_at_call 26; refine (callsIn_wide.2 (unit_any p k _ h1 h2)).mono ?_; rintro e w1 ⟨rfl, hb⟩; have hc0' := (hb.cell (p := ⟨Bn, 0, none⟩) (by simp; omega)).trans hc0; have hc1' := (hb.cell (p := ⟨Bn, 1, none⟩) (by simp; omega)).trans hc1)
  have hJ1 := hJ [] W _ none h0 (grownBy_of_below hb) (fun r e => by cases e)
  clear hc0 hc1 hb
  gi_wp2
  gi_loopw [3, 8] (fun v i wr => ∃ (j : Nat) (V : Int), i = .int .i64 j ∧ j ≤ p ∧ v = .int .i64 V ∧ (j < p → V = tval p k j) ∧ -1 ≤ V ∧ V ≤ 10000000000 ∧ J (tvals p k j) wr ∧ wr.cell? ⟨Bn, 1, none⟩ = some (.int .i64 k))
    (fun _ i _ => p - (intOf i).toNat)
  case atStart =>
    have hp := pow100_le (m := p - 1) (by omega)
    exact ⟨0, _, rfl, Nat.zero_le _, rfl, fun _ => (tval_zero p k).symm, by omega, by omega, hJ1, hc1'⟩
  case round =>
    obtain ⟨j, V, rfl, hj, rfl, hV, hV1, hV2, hJs, hcK⟩ := hrel
    by_cases hlt : j < p
    · have HV := Lib.hid (hV hlt)
      have hbd := tval_bd (i := j) h3 h4 h2 hlt
      rw [← HV.out] at hbd
      have hnx : 0 ≤ V / 100 * k ∧ V / 100 * k ≤ 10000000000 := by
        have a1 : 0 ≤ V / 100 := by omega
        have a2 := Int.mul_nonneg a1 (show (0 : Int) ≤ k by omega)
        have a3 := Int.mul_le_mul_of_nonneg_left h4 a1
        omega
      clear hV
      obtain ⟨fn, tmps, assign, body, hy, hR⟩ := hY (tvals p k j) V wr hJs (by simp [tvals]; exact hlt)
      have HR := Lib.hid hR
      clear hR hJ hY hJs hc0' hJ1
      gi_wp2
      refine HR.out.mono ?_
      rintro e W3 (⟨rfl, hJ3, hk3⟩ | ⟨rfl, hJx3⟩)
      · have hq3 : W3.cell? ⟨Bn, 1, none⟩ = some (.int .i64 k) := (World.cell?_of_block (a := ⟨Bn, 1, none⟩) hk3).trans hcK
        gi_wp2
        go_roundw
        case rel => exact ⟨j + 1, V / 100 * k, by go_num, by omega, rfl, fun h => by rw [HV.out, tval_next h], by omega, by omega, by rw [tvals_succ, ← HV.out]; exact hJ3, hq3⟩
        case measure => simp [intOf]; omega
      · gi_wp2
        refine bodyPost_ret (results_none rfl _ _ _) rfl ?_
        exact ⟨⟨_, rfl⟩, .inr ⟨_, trivial, hJx3⟩⟩
    · have hjp : p = j := by omega
      subst hjp
      gi_wp2
      go_end0
      exact ⟨⟨_, rfl⟩, .inl ⟨_, rfl, hJs⟩⟩

theorem tens_stops (n : Nat) (hn : 1 ≤ n) (Bn p : Nat) (k : Int) (h1 : 1 ≤ p) (h2 : p ≤ 6) (h3 : 1 ≤ k) (h4 : k ≤ 100) (w : World) (hBn : Bn < w.heap.size)
    (hc0 : w.cell? ⟨Bn, 0, none⟩ = some (.int .i64 p)) (hc1 : w.cell? ⟨Bn, 1, none⟩ = some (.int .i64 k)) :
    SeqStopsK Fence.wide n Tryd.prog 44 #[.pointer (some ⟨Bn, 0, none⟩)] (fun x : Int => #[Value.int .i64 x]) (KeepBlk Bn) (fun ys => ys = tvals p k p) (fun _ => True) p w := fun l J Jx W hW hJ _ hY h0 =>
  tens1_in n hn l Bn p k h1 h2 h3 h4 J Jx W hJ (by have := hW.size; omega) hY ((hW.cell (p := ⟨Bn, 0, none⟩) hBn).trans hc0) ((hW.cell (p := ⟨Bn, 1, none⟩) hBn).trans hc1) h0

theorem cell_of_box_l {W : World} {B : Nat} {v : Value} {t : TypeId} (h : W.heap[B]? = some (.cells #[v] t (0, 0))) : W.cell? ⟨B, 0, none⟩ = some v ∧ W.frozen? ⟨B, 0, none⟩ = false := by
  constructor <;> simp [World.cell?, World.frozen?, h]
theorem cell_new_l (W : World) (v : Value) (t : TypeId) : (W.alloc (.cells #[v] t)).cell? ⟨W.heap.size, 0, none⟩ = some v ∧ (W.alloc (.cells #[v] t)).frozen? ⟨W.heap.size, 0, none⟩ = false :=
  cell_of_box_l (World.alloc_heap_new W _)
theorem cell_alloc_l {W : World} {a : Addr} {v : Value} (o : Obj) (h : W.cell? a = some v) : (W.alloc o).cell? a = some v := cell_kept h (World.grownBy_alloc W o none) (fun r e => by cases e)
theorem frozen_alloc_l {W : World} {a : Addr} {v : Value} (o : Obj) (h : W.cell? a = some v) (hf : W.frozen? a = false) : (W.alloc o).frozen? a = false := (frozen_kept h (World.grownBy_alloc W o none) (fun r e => by cases e)).trans hf

def isum (l : List Int) : Int := l.foldl (· + ·) 0
theorem isum_snoc (l : List Int) (x : Int) : isum (l ++ [x]) = isum l + x := by simp [isum]
/-- All tensions add up. -/
theorem isum_tvals {p : Nat} (k : Int) (h1 : 1 ≤ p) (h2 : p ≤ 6) : isum (tvals p k p) = sumT p k := by
  have : p = 1 ∨ p = 2 ∨ p = 3 ∨ p = 4 ∨ p = 5 ∨ p = 6 := by omega
  rcases this with rfl | rfl | rfl | rfl | rfl | rfl <;> simp [isum, tvals, List.range_succ, tval, sumT, Int.pow_succ] <;> grind

def sumW : List Int → Int := List.foldl (fun s v => wrap64 (s + v)) 0
theorem sumW_snoc (pre : List Int) (x : Int) : sumW (pre ++ [x]) = wrap64 (sumW pre + x) := by simp [sumW]
theorem sumW_tvals {p : Nat} {k : Int} (h1 : 1 ≤ k) (h2 : k ≤ 100) (hp : p ≤ 6) : ∀ m, m ≤ p → sumW (tvals p k m) = isum (tvals p k m) ∧ 0 ≤ isum (tvals p k m) ∧ isum (tvals p k m) ≤ m * 10000000000 := by
  intro m
  induction m with
  | zero => intro _; simp [tvals, sumW, isum]
  | succ m ih =>
    intro h
    obtain ⟨a, b, c⟩ := ih (by omega)
    have hb := tval_bd (i := m) h1 h2 hp (by omega)
    rw [tvals_succ, sumW_snoc, isum_snoc, a]
    generalize isum (tvals p k m) = X at *
    generalize tval p k m = Y at *
    refine ⟨IntWalk.wrap64_in _ ⟨by omega, by omega⟩, by omega, by omega⟩

set_option maxRecDepth 100000 in
set_option maxHeartbeats 2000000 in
theorem lifted_any (p : Nat) (k pull : Int) (w : World) (h1 : 1 ≤ p) (h2 : p ≤ 6) (h3 : 1 ≤ k) (h4 : k ≤ 100) (h5 : 0 ≤ pull) (h6 : pull ≤ 1000000) :
    Calls Tryd.prog 25 #[.agg #[.int .i64 p, .int .i64 k], .int .i64 pull] w fun e w' => e = .returned (.int .i64 (sumT p k * pull)) ∧ Below w.heap.size w w' := by
  have hsum := sumW_tvals h3 h4 h2 p (Nat.le_refl _)
  rw [isum_tvals k h1 h2] at hsum
  have hle := sumT_le (m := p) h3 h4 h2 h1
  have g1 : 0 ≤ sumT p k * pull := Int.mul_nonneg (by omega) h5
  have g2 : sumT p k * pull ≤ 60000000000 * 1000000 := Int.mul_le_mul (by omega) h6 h5 (by omega)
  have HS := Lib.hid hsum.1
  clear hsum
  generalize sumT p k = S at *
  refine (callsIn_wide (n := 9)).1 ?_
  refine callsIn_of_wp_marks Tryd.func25 rfl trivial ?_ rfl
  simp only [Tryd.ntmps25, List.size_toArray, List.length_cons, List.length_nil, Nat.reduceAdd, Nat.reduceSub, Array.replicate_succ, Array.replicate_zero, List.push_toArray, List.append_toArray, List.nil_append, List.cons_append]
  gi_wp2_with (refine ⟨trivial, ?_⟩; gi_at_call 36; refine (callsIn_wide.2 (tensions_any _ _ _)).mono ?_; rintro e w' ⟨rfl, rfl⟩)
  have hs := cell_new_l (w.alloc (.cells #[.int .i64 p, .int .i64 k] 36)) (.int .i64 0) 3
  rw [World.size_alloc] at hs
  have hb0 : (((w.alloc (.cells #[.int .i64 p, .int .i64 k] 36)).alloc (.cells #[.int .i64 0] 3)).alloc (.cells #[.int .i64 p, .int .i64 k] 36)).cell? ⟨w.heap.size + 1 + 1, 0, none⟩ = some (.int .i64 p) := by go_simp
  have hb1 : (((w.alloc (.cells #[.int .i64 p, .int .i64 k] 36)).alloc (.cells #[.int .i64 0] 3)).alloc (.cells #[.int .i64 p, .int .i64 k] 36)).cell? ⟨w.heap.size + 1 + 1, 1, none⟩ = some (.int .i64 k) := by go_simp
  have hB0 : Below w.heap.size w (((w.alloc (.cells #[.int .i64 p, .int .i64 k] 36)).alloc (.cells #[.int .i64 0] 3)).alloc (.cells #[.int .i64 p, .int .i64 k] 36)) := (by repeat (first | exact Below.refl _ _ | assumption | refine Below.setCell ?_ (by first | (simp; done) | (simp; omega) | omega) _ | refine Below.drew ?_ | refine below_drewN ?_ _ | refine Below.alloc ?_ (by first | (simp; done) | (simp; omega) | omega) _ | refine below_alloc ?_ _ | refine below_step ?_ (by assumption)))
  have hst := tens_stops 8 (by omega) (w.heap.size + 1 + 1) p k h1 h2 h3 h4 (((w.alloc (.cells #[.int .i64 p, .int .i64 k] 36)).alloc (.cells #[.int .i64 0] 3)).alloc (.cells #[.int .i64 p, .int .i64 k] 36)) (by simp) hb0 hb1
  refine wpIn_rangeFunc_ownF rfl (by omega) (gf := 44) (lb := #[.pointer (some ⟨w.heap.size + 1 + 1, 0, none⟩)]) rfl trivial (enters_of Tryd.func44 (by kernel_rfl) rfl)
    hst KeepBlk.t (KeepBlk.b (by simp)) (Below.refl _ _) (fun _ => rfl)
    (fun pre W => (W.cell? ⟨w.heap.size + 1, 0, none⟩ = some (.int .i64 (sumW pre)) ∧ W.frozen? ⟨w.heap.size + 1, 0, none⟩ = false) ∧ Below w.heap.size w W)
    (fun _ _ _ => False)
    (OwnFrom.and (Own.from (fun s A B row hs hg hr => ⟨cell_kept hs.1 hg hr, (frozen_kept hs.1 hg hr).trans hs.2⟩) _) (ownFrom_below (Nat.le_refl _) (by simp; omega)))
    (fun _ _ _ _ _ hs _ _ => hs)
    ⟨⟨cell_alloc_l _ hs.1, frozen_alloc_l _ hs.1 hs.2⟩, hB0⟩
    (fun x => { tmps := #[.agg #[.int .i64 p, .int .i64 k], .int .i64 pull, .pointer (some ⟨w.heap.size, 0, none⟩), undef, .int .i64 0, .pointer (some ⟨w.heap.size + 1, 0, none⟩), .int .i64 x, .agg #[.int .i64 p, .int .i64 k], .func (.func 44) #[] #[.pointer (some ⟨w.heap.size + 1 + 1, 0, none⟩)], .int .i64 x, undef, undef, undef, undef, undef, undef], defers := [] }) ?assign ?body ?done ?stop
  case assign =>
    intro l x W K hK
    gi_wp2
    exact hK
  case body =>
    rintro l pre x W ⟨⟨hc, hf⟩, hB⟩ _
    gi_wp2
    exact ⟨KeepsOthers.setCell _ _ _, Below.heap_setCell _ _ _ _ (by simp), ⟨by rw [sumW_snoc]; exact World.cell?_setCell_same' _ _ _ (by rw [hc]; rfl), by rw [World.frozen?_setCell]; exact hf⟩, hB.setCell (p := ⟨w.heap.size + 1, 0, none⟩) (by simp) _⟩
  case done =>
    rintro D ys W hD rfl ⟨⟨hc, _⟩, hB⟩ hK
    rw [HS.out] at hc
    gi_wp2
    refine ⟨by simp, .inl ⟨_, _, rfl, run_takeDeferred hK, ?_⟩⟩
    exact ⟨_, results_tmp rfl _ _ _, rfl, hB.trans (belowK_b (w := w) (Nat.le_refl _) W D _ _ (by simp at hD; omega) hK rfl rfl)⟩
  case stop =>
    rintro D c pre W _ _ h _
    exact h.elim
end Go.Proofs.YtolamhjbpdjgeaaDoor
