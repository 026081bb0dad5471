/- Tapes: the iterator of forests. -/
import Derived.Test.YthpbkbbmedpecaaDoorTape3
import Derived.Test.YthpbkbbmedpecaaDoorNetS
import Derived.RangeFuncNested
import Derived.RangeFuncBound
import Derived.RangeFuncCalls
import Derived.RangeFuncLeaves
import Derived.RangeFuncFrom
import Derived.Shelf.Abstract
import Derived.OwnWalkIn
import Derived.TacticsInMore
import Derived.LoopNIn
import Derived.LoopIn
set_option linter.unusedSimpArgs false
set_option linter.unusedVariables false
namespace Go.Proofs.YthpbkbbmedpecaaDoor
open Go.RowKit Go.Shelf
attribute [local go_sem] Oper.semAt_some

theorem grownBy_of_below {W w1 : World} (h : Below W.heap.size W w1) : W.grownBy w1 none := ⟨h.os, h.tape, h.output, h.size, fun k hk _ => h.block k hk⟩
/-- What lay below n0 lies, and block b. -/
def KeepB (n0 b : Nat) (A B : World) : Prop := Below n0 A B ∧ B.heap[b]? = A.heap[b]?
theorem KeepB.t {n0 b : Nat} {A B C : World} (h : KeepB n0 b A B) (k : KeepB n0 b B C) : KeepB n0 b A C := ⟨h.1.trans k.1, k.2.trans h.2⟩
theorem KeepB.b {n0 b : Nat} {w : World} (hn : n0 ≤ w.heap.size) (hb : b < w.heap.size) (W : World) (l : Nat) (o o' : Obj) (hl : w.heap.size ≤ l) (h : W.heap[l]? = some o) (h1 : o.isCells = false) (h2 : o.isWalk = false) : KeepB n0 b W (W.putObj l o') :=
  ⟨belowK_b hn W l o o' hl h h1 h2, World.putObj_heap_other (by omega)⟩
theorem KeepB.of_below {n0 b : Nat} {A B : World} (h : Below A.heap.size A B) (hn : n0 ≤ A.heap.size) (hb : b < A.heap.size) : KeepB n0 b A B := ⟨h.mono hn, h.block b hb⟩
/-- What is yielded for a set; of any number its part below 2 ^ m. -/
def encF (l : List Tp) (m : Nat) (s : Nat) : Array Value := #[.int .i64 (s % 2 ^ m : Nat), arrV (jk l (s % 2 ^ m) m).1]
theorem encF_eq {l : List Tp} {m s : Nat} (h : s < 2 ^ m) : encF l m s = #[.int .i64 s, arrV (jk l s m).1] := by unfold encF; rw [Nat.mod_eq_of_lt h]

theorem forests_any (n : Int) (A : Option Addr) (len cap : Nat) (w : World) :
    Calls Tryd.prog 28 #[.int .i64 n, .slice A len cap] w fun e w' => e = .returned (.func (.func 47) #[] #[.pointer (some ⟨w.heap.size, 0, none⟩)]) ∧ w.alloc (.cells #[.slice A len cap] 22) = w' := by
  go_enter Tryd.func28, Tryd.ntmps28
  go_wp2
  go_ret
  exact ⟨rfl, rfl⟩

set_option maxRecDepth 100000 in
set_option maxHeartbeats 1000000 in
theorem forests1_in (n : Nat) (hn : 1 ≤ n) (y Bn n0 : Nat) (A : Option Addr) (len cap : Nat) (l : List Tp) (hm : len ≤ 10) (hl : okL l) (J Jx : List Nat → World → Prop)
    (W : World) (hJ : AbidesFrom W.heap.size J) (hb : Bn < W.heap.size) (hn0 : n0 ≤ W.heap.size)
    (hY : ∀ pre x W, J pre W → pre.length < 1024 → YieldAt Fence.wide (n - 1) Tryd.prog y (encF l len x) W fun e W' =>
      (e = .returned (.bool true) ∧ J (pre ++ [x]) W' ∧ KeepB n0 Bn W W') ∨ (e = .returned (.bool false) ∧ Jx (pre ++ [x]) W'))
    (hc : W.cell? ⟨Bn, 0, none⟩ = some (.slice A len cap)) (hX : Rows 3 int3 (0,0,0) W n0 A len l) (h0 : J [] W) :
    CallsIn Fence.wide n Tryd.prog 47 #[.func (.yield y) #[] #[], .pointer (some ⟨Bn, 0, none⟩)] W fun e W' => (∃ v, e = .returned v) ∧
      ((∃ ys, ys = fl l len (2 ^ len) ∧ J ys W') ∨ (∃ pre, True ∧ Jx pre W')) := by
  have hpw : 1 ≤ 2 ^ len ∧ 2 ^ len ≤ 1024 := ⟨Nat.pow_pos (by decide), Nat.pow_le_pow_right (by decide) hm⟩
  have c1 := fun W => whole_any A len cap W hm
  have c2 := fun s W (hs : s < 1024) hx => joined_any A len cap l s W hm hs hx hl
  have HJ := Lib.hid hJ
  have HY := Lib.hid hY
  have HX := Lib.hid hX
  have HE : Hid (∀ s, s < 2 ^ len → encF l len s = #[.int .i64 s, arrV (jk l s len).1]) := Lib.hid (fun _ h => encF_eq h)
  generalize hN : 2 ^ len = N at *
  have C1 := Lib.hid c1
  have C2 := Lib.hid c2
  have HN := Lib.hid hN
  clear c1 c2 hN hJ hY hX
  have hB0 : Below W.heap.size W W := Below.refl _ _
  refine callsIn_of_wp Tryd.func47 rfl trivial ?_ rfl
  simp only [Tryd.ntmps47, List.size_toArray, List.length_cons, List.length_nil, Nat.reduceAdd, Nat.reduceSub, Array.replicate_succ, Array.replicate_zero, List.push_toArray, List.append_toArray, List.nil_append, List.cons_append]
  gi_wp2
  gi_loopw [3] (fun i wr => ∃ k : Nat, k ≤ N ∧ i = .int .i64 k ∧ J (fl l len k) wr ∧ wr.cell? ⟨Bn, 0, none⟩ = some (.slice A len cap) ∧ Rows 3 int3 (0,0,0) wr n0 A len l ∧ W.heap.size ≤ wr.heap.size) (fun i _ => N - (intOf i).toNat)
  case atStart => exact ⟨0, Nat.zero_le _, rfl, h0, hc, HX.out, Nat.le_refl _⟩
  case round =>
    obtain ⟨k, hk, rfl, hJs, hcB, hXr, hsz⟩ := hrel
    have hbr : Bn < wr.heap.size := by omega
    by_cases hlt : k < N
    · have hk1 : (k : Int) ≤ (N - 1 : Nat) := by omega
      have hk2 : decide ((k : Int) ≤ (N - 1 : Nat)) = true := decide_eq_true hk1
      have c3 := C2.out k wr (by omega) (hXr.more (by omega))
      have hfy := fl_yes (l := l) (m := len) (k := k)
      have hfn := fl_no (l := l) (m := len) (k := k)
      have henc := HE.out k hlt
      have hfl := fl_len l len k
      generalize jk l k len = q at *
      obtain ⟨qr, qt⟩ := q
      dsimp only at *
      unfold arrV at c3 henc
      generalize num qr 0 = x0 at *
      generalize num qr 1 = x1 at *
      generalize num qr 2 = x2 at *
      generalize num qr 3 = x3 at *
      generalize num qr 4 = x4 at *
      generalize num qr 5 = x5 at *
      have HXR := Lib.hid hXr
      have HJS := Lib.hid hJs
      cases qt
      · have HF := Lib.hid (hfn rfl)
        have C3 := Lib.hid c3
        clear c3 hXr hJs hfy hfn henc
        gi_wp2_with (first | (refine ⟨trivial, ?_⟩; gi_at_call 43; refine (callsIn_wide.2 (C1.out _)).mono ?_; rintro e w' ⟨rfl, rfl⟩) | (refine ⟨trivial, ?_⟩; gi_at_call 42; refine (callsIn_wide.2 C3.out).mono ?_; rintro e w1 ⟨rfl, hb1⟩))
        have hbb : Below wr.heap.size wr (w1.alloc (.cells #[.int .i64 x0, .int .i64 x1, .int .i64 x2, .int .i64 x3, .int .i64 x4, .int .i64 x5] 80)) := hb1.alloc hb1.size _
        refine ⟨(by intro f hf; cases hf), ?_⟩
        gi_wp2
        go_roundw
        case rel => exact ⟨k + 1, by omega, by go_num, by rw [HF.out]; exact HJ.out _ _ _ none HJS.out (grownBy_of_below hbb) (fun r e => by cases e), (hbb.cell (p := ⟨Bn, 0, none⟩) hbr).trans hcB, HXR.out.below (hbb.mono (by omega)), Nat.le_trans hsz hbb.size⟩
        case measure => simp [intOf]; omega
      · have HF := Lib.hid (hfy rfl)
        have C3 := Lib.hid c3
        clear c3 hXr hJs hfy hfn
        have HEN := Lib.hid henc
        clear henc
        gi_wp2_with (first | (refine ⟨trivial, ?_⟩; gi_at_call 43; refine (callsIn_wide.2 (C1.out _)).mono ?_; rintro e w' ⟨rfl, rfl⟩) | (refine ⟨trivial, ?_⟩; gi_at_call 42; refine (callsIn_wide.2 C3.out).mono ?_; rintro e w1 ⟨rfl, hb1⟩; have hbb : Below wr.heap.size wr (w1.alloc (.cells #[.int .i64 x0, .int .i64 x1, .int .i64 x2, .int .i64 x3, .int .i64 x4, .int .i64 x5] 80)) := hb1.alloc hb1.size _; have hJ1 := HJ.out _ _ _ none HJS.out (grownBy_of_below hbb) (fun r e => by cases e); obtain ⟨fn, tmps, assign, body, hy, hR⟩ := HY.out _ k _ hJ1 (by omega); rw [HEN.out] at hy; have HR := Lib.hid hR; clear hR hJ1))
        refine HR.out.mono ?_
        rintro e W3 (⟨rfl, hJ3, hk3⟩ | ⟨rfl, hJx3⟩)
        · have hcB1 : (w1.alloc (.cells #[.int .i64 x0, .int .i64 x1, .int .i64 x2, .int .i64 x3, .int .i64 x4, .int .i64 x5] 80)).cell? ⟨Bn, 0, none⟩ = some (.slice A len cap) := (hbb.cell (p := ⟨Bn, 0, none⟩) hbr).trans hcB
          have hq3 : W3.cell? ⟨Bn, 0, none⟩ = some (.slice A len cap) := (World.cell?_of_block (a := ⟨Bn, 0, none⟩) hk3.2).trans hcB1
          have hX3 : Rows 3 int3 (0,0,0) W3 n0 A len l := (HXR.out.below (hbb.mono (by omega))).below hk3.1
          have hs3 : W.heap.size ≤ W3.heap.size := Nat.le_trans (Nat.le_trans hsz hbb.size) hk3.1.size
          have HJ3 := Lib.hid hJ3
          have HX3 := Lib.hid hX3
          clear hcB hcB1 hJ3 hX3 hk3 HXR HJS hb1 hbb
          gi_wp2
          go_roundw
          case rel => exact ⟨k + 1, by omega, by go_num, by rw [HF.out]; exact HJ3.out, hq3, HX3.out, hs3⟩
          case measure => simp [intOf]; omega
        · gi_wp2
          refine bodyPost_ret (results_none rfl _ _ _) rfl ?_
          exact ⟨⟨_, rfl⟩, .inr ⟨_, trivial, hJx3⟩⟩
    · have hkn : k = N := by omega
      have hk2 : decide ((k : Int) ≤ (N - 1 : Nat)) = false := decide_eq_false (by omega)
      have HJS := Lib.hid hJs
      clear hJs hXr
      subst hkn
      gi_wp2_with (refine ⟨trivial, ?_⟩; gi_at_call 43; refine (callsIn_wide.2 (C1.out _)).mono ?_; rintro e w' ⟨rfl, rfl⟩)
      go_end0
      exact ⟨⟨_, rfl⟩, .inl ⟨_, rfl, HJS.out⟩⟩
theorem forests_stops (n : Nat) (hn : 1 ≤ n) (Bn n0 : Nat) (A : Option Addr) (len cap : Nat) (l : List Tp) (hm : len ≤ 10) (hl : okL l) (w : World) (hBn : Bn < w.heap.size) (hn0 : n0 ≤ w.heap.size)
    (hc : w.cell? ⟨Bn, 0, none⟩ = some (.slice A len cap)) (hX : Rows 3 int3 (0,0,0) w n0 A len l) :
    SeqStopsK Fence.wide n Tryd.prog 47 #[.pointer (some ⟨Bn, 0, none⟩)] (encF l len) (KeepB n0 Bn) (fun ys => ys = fl l len (2 ^ len)) (fun _ => True) 1024 w := fun y J Jx W hW hJ _ hY h0 =>
  forests1_in n hn y Bn n0 A len cap l hm hl J Jx W hJ (by have := hW.size; omega) (by have := hW.size; omega) hY ((hW.cell (p := ⟨Bn, 0, none⟩) hBn).trans hc) (hX.below (hW.mono hn0)) h0
end Go.Proofs.YthpbkbbmedpecaaDoor
