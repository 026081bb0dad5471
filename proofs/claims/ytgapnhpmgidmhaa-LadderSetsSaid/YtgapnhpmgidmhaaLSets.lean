/- LadderSets: the walk of the statement. -/
import Derived.Test.YtgapnhpmgidmhaaLadA
import Derived.Test.YtgapnhpmgidmhaaBear2
import Derived.Test.YtgapnhpmgidmhaaBear5
import Derived.Test.YtgapnhpmgidmhaaFewest
import Derived.Test.YtgapnhpmgidmhaaSameI
set_option linter.unusedSimpArgs false
set_option linter.unusedVariables false
namespace Go.Proofs.Ytgapnhpmgidmhaa
open Go.RowKit
attribute [local go_sem] Later.cell LtN.cell

theorem small_any (A : Option Addr) (len cap : Nat) (A' : Option Addr) (n cap' : Nat) (w : World) :
    Calls Try.prog 4 #[.slice A len cap, .slice A' n cap'] w fun e w' => e = .returned (.bool (decide (len ≤ 80) && decide (n ≤ 80))) ∧ w = w' := by
  by_cases h1 : len ≤ 80
  · have h1' : decide (len ≤ 80) = true := decide_eq_true h1
    go_enter Try.func4, Try.ntmps4
    go_wp2
    go_ret
    exact ⟨ret_bool (by rw [h1', Bool.true_and]; exact decide_eq_decide.2 (by omega)), rfl⟩
  · have h1' : decide (len ≤ 80) = false := decide_eq_false h1
    have h1'' : decide ((len : Int) ≤ 80) = false := decide_eq_false (by omega)
    go_enter Try.func4, Try.ntmps4
    go_wp2
    go_ret
    exact ⟨ret_bool (by rw [h1']; rfl), rfl⟩
theorem ladV_len (c : Clb) (l : List J) (ds : List Int) : (ladV c l ds).length ≤ ds.length := by
  unfold ladV ladO
  split
  · rcases few_way (lc c) (ft c l ds) with ⟨h1, _⟩ | ⟨fin, r, h1, h2, h3, _⟩
    · rw [h1]; exact Nat.zero_le _
    · rw [h1]
      have := way_len h2
      rw [ft_len] at h3
      simp at this
      show fin.length ≤ _
      omega
  · exact Nat.zero_le _
/-- The three arguments' cells. -/
def SArg (W : World) (b : Nat) (fi ga tp le la st : Int) (A' : Option Addr) (n cap' : Nat) (A2 : Option Addr) (m cap2 : Nat) (x : Int) : Prop :=
  ClimbAt W b ⟨fi, ga, tp, le, la, st⟩ ∧ W.cell? ⟨b + 1, 0, none⟩ = some (.slice A' n cap') ∧ W.cell? ⟨b + 1, 1, none⟩ = some (.slice A2 m cap2) ∧ W.cell? ⟨b + 1, 2, none⟩ = some (.int .i64 x)
theorem SArg.below {W W' : World} {b : Nat} {fi ga tp le la st : Int} {A' : Option Addr} {n cap' : Nat} {A2 : Option Addr} {m cap2 : Nat} {x : Int} (h : SArg W b fi ga tp le la st A' n cap' A2 m cap2 x) (hb : Below W.heap.size W W') (hs : b + 1 < W.heap.size) : SArg W' b fi ga tp le la st A' n cap' A2 m cap2 x := by
  obtain ⟨h1, h2, h3, h4⟩ := h
  exact ⟨h1.block (hb.block b (by omega)), (hb.cell (p := ⟨b + 1, 0, none⟩) hs).trans h2, (hb.cell (p := ⟨b + 1, 1, none⟩) hs).trans h3, (hb.cell (p := ⟨b + 1, 2, none⟩) hs).trans h4⟩
set_option maxRecDepth 20000 in
set_option maxHeartbeats 8000000 in
theorem sets_walk (fi ga tp le la st : Int) (A : Option Addr) (len cap : Nat) (l : List J) (A' : Option Addr) (n cap' : Nat) (ds : List Int) (A2 : Option Addr) (m cap2 : Nat) (ls : List Int) (x : Int) (w : World)
    (_ : -9223372036854775808 ≤ fi ∧ fi ≤ 9223372036854775807) (_ : -9223372036854775808 ≤ ga ∧ ga ≤ 9223372036854775807) (_ : -9223372036854775808 ≤ tp ∧ tp ≤ 9223372036854775807) (_ : -9223372036854775808 ≤ le ∧ le ≤ 9223372036854775807) (_ : -9223372036854775808 ≤ la ∧ la ≤ 9223372036854775807) (_ : -9223372036854775808 ≤ st ∧ st ≤ 9223372036854775807)
    (hm : len ≤ cap ∧ cap ≤ 9223372036854775807) (hx : Rows 2 jointV dJ w w.heap.size A len l) (_ : ∀ x ∈ l, -9223372036854775808 ≤ x.1 ∧ x.1 ≤ 9223372036854775807)
    (hm' : n ≤ cap' ∧ cap' ≤ 9223372036854775807) (hy : Ints w w.heap.size A' n ds) (_ : ∀ x ∈ ds, -9223372036854775808 ≤ x ∧ x ≤ 9223372036854775807)
    (hm2 : m ≤ cap2 ∧ cap2 ≤ 9223372036854775807) (hz : Ints w w.heap.size A2 m ls) (_ : ∀ x ∈ ls, -9223372036854775808 ≤ x ∧ x ≤ 9223372036854775807)
    (hib : -9223372036854775808 ≤ x ∧ x ≤ 9223372036854775807) :
    Calls Try.prog 3 #[.agg #[.int .i64 fi, .int .i64 ga, .int .i64 tp, .int .i64 le, .int .i64 la, .int .i64 st], .slice A len cap, .agg #[.slice A' n cap', .slice A2 m cap2, .int .i64 x]] w fun e w' => e = .returned (.bool true) ∧ Below w.heap.size w w' := by
  have c0 := fun W => small_any A len cap A' n cap' W
  by_cases hs : (decide (len ≤ 80) && decide (n ≤ 80)) = true
  · rw [hs] at c0
    rw [Bool.and_eq_true, decide_eq_true_eq, decide_eq_true_eq] at hs
    by_cases hm8 : m ≤ 80
    · have hm9 : decide ((80 : Int) < m) = false := decide_eq_false (by omega)
      have hm10 : ¬ (80 : Int) < m := by omega
      have c1 := fun W (hh : Below w.heap.size w W) => Set_any ⟨fi, ga, tp, le, la, st⟩ A len cap l A' n cap' ds A2 m cap2 ls W (by omega) (by omega) (by omega) ((hx.below hh).more hh.size) ((hy.below hh).more hh.size) ((hz.below hh).more hh.size)
      have c2 := fun W (hh : Below w.heap.size w W) => ladders_any ⟨fi, ga, tp, le, la, st⟩ A len cap l A' n cap' ds W (by omega) (by omega) ((hx.below hh).more hh.size) ((hy.below hh).more hh.size)
      have c3 := fun W (hh : Below w.heap.size w W) => rladders_any ⟨fi, ga, tp, le, la, st⟩ A len cap l A' n cap' ds W (by omega) (by omega) ((hx.below hh).more hh.size) ((hy.below hh).more hh.size)
      have c4 := fun W (hh : Below w.heap.size w W) => rSet_any ⟨fi, ga, tp, le, la, st⟩ A len cap l A' n cap' ds A2 m cap2 ls W (by omega) (by omega) (by omega) ((hx.below hh).more hh.size) ((hy.below hh).more hh.size) ((hz.below hh).more hh.size)
      have hvl := ladV_len ⟨fi, ga, tp, le, la, st⟩ l ds
      rw [hy.1] at hvl
      have c5 := fun A5 k5 W (hh : Below w.heap.size w W) (hv : Ints W W.heap.size A5 (ladV ⟨fi, ga, tp, le, la, st⟩ l ds).length (ladV ⟨fi, ga, tp, le, la, st⟩ l ds)) => Set_any ⟨fi, ga, tp, le, la, st⟩ A len cap l A' n cap' ds A5 (ladV ⟨fi, ga, tp, le, la, st⟩ l ds).length k5 (ladV ⟨fi, ga, tp, le, la, st⟩ l ds) W (by omega) (by omega) (by omega) ((hx.below hh).more hh.size) ((hy.below hh).more hh.size) hv
      obtain ⟨hlw1, hlw2⟩ := lad_law (c := ⟨fi, ga, tp, le, la, st⟩) (l := l) (ds := ds) (ls := ls)
      rw [hz.1] at hlw2
      generalize hV : ladV ⟨fi, ga, tp, le, la, st⟩ l ds = V at *
      generalize ladE ⟨fi, ga, tp, le, la, st⟩ l ds = E at *
      generalize setB ⟨fi, ga, tp, le, la, st⟩ l ds ls = B at *
      generalize setB ⟨fi, ga, tp, le, la, st⟩ l ds V = BV at *
      have C0 := Lib.hid c0
      have C1 := Lib.hid c1
      have C2 := Lib.hid c2
      have C3 := Lib.hid c3
      have C4 := Lib.hid c4
      have C5 := Lib.hid c5
      have HL1 := Lib.hid hlw1
      have HL2 := Lib.hid hlw2
      clear c0 c1 c2 c3 c4 c5 hx hy hz hlw1 hlw2 hV
      have hBB : (B != B) = false := by simp
      have hEE : (E != E) = false := by simp
      have hA0 : SArg ((w.alloc (.cells #[.int .i64 fi, .int .i64 ga, .int .i64 tp, .int .i64 le, .int .i64 la, .int .i64 st] 23)).alloc (.cells #[.slice A' n cap', .slice A2 m cap2, .int .i64 x] 27)) w.heap.size fi ga tp le la st A' n cap' A2 m cap2 x := ⟨⟨by go_simp, by go_simp, by go_simp, by go_simp, by go_simp, by go_simp⟩, by go_simp, by go_simp, by go_simp⟩
      go_enter Try.func3, Try.ntmps3
      go_wp2_with (go_at_call 4; refine (C0.out _).mono ?_; rintro e w' ⟨rfl, rfl⟩)
      have hB0 : Below w.heap.size w ((w.alloc (.cells #[.int .i64 fi, .int .i64 ga, .int .i64 tp, .int .i64 le, .int .i64 la, .int .i64 st] 23)).alloc (.cells #[.slice A' n cap', .slice A2 m cap2, .int .i64 x] 27)) := ((Below.refl _ w).alloc (Nat.le_refl _) _).alloc (by simp) _
      have hs0 : ((w.alloc (.cells #[.int .i64 fi, .int .i64 ga, .int .i64 tp, .int .i64 le, .int .i64 la, .int .i64 st] 23)).alloc (.cells #[.slice A' n cap', .slice A2 m cap2, .int .i64 x] 27)).heap.size = w.heap.size + 2 := by simp
      generalize ((w.alloc (.cells #[.int .i64 fi, .int .i64 ga, .int .i64 tp, .int .i64 le, .int .i64 la, .int .i64 st] 23)).alloc (.cells #[.slice A' n cap', .slice A2 m cap2, .int .i64 x] 27)) = W0 at *
      refine (C1.out _ hB0).mono ?_
      rintro e w1 ⟨rfl, hb⟩
      have hB1 := hB0.trans (hb.mono hB0.size)
      have hs1 := hb.size
      have hA1 := hA0.below hb (by omega)
      obtain ⟨⟨q0, q1, q2, q3, q4, q5⟩, q6, q7, q8⟩ := id hA1
      clear hb hA0 hB0 C0 C1
      go_wp2_with fail
      refine (C2.out _ hB1).mono ?_
      rintro e w2 ⟨⟨v2, rfl, ho2⟩, hb⟩
      obtain ⟨A5, k5, rfl, hk1, hk2, hI5, -⟩ := own_ints ho2
      have hB2 := hB1.trans (hb.mono hB1.size)
      have hs2 := hb.size
      have hA2 := hA1.below hb (by omega)
      clear hb hA1 hB1 ho2 C2 q0 q1 q2 q3 q4 q5 q6 q7 q8
      obtain ⟨⟨q0, q1, q2, q3, q4, q5⟩, q6, q7, q8⟩ := id hA2
      have HI5 := Lib.hid hI5
      clear hI5
      go_wp2_with fail
      refine (C3.out _ hB2).mono ?_
      rintro e w3 ⟨⟨v3, rfl, ho3⟩, hb⟩
      obtain ⟨A6, k6, rfl, hk3, hk4, hI6, -⟩ := own_ints ho3
      have hB3 := hB2.trans (hb.mono hB2.size)
      have hs3 := hb.size
      have hA3 := hA2.below hb (by omega)
      have HJ5 := Lib.hid ((HI5.out.below hb).more hb.size)
      have HJ6 := Lib.hid hI6
      clear hb hA2 hB2 ho3 hI6 HI5 C3 q0 q1 q2 q3 q4 q5 q6 q7 q8
      obtain ⟨⟨q0, q1, q2, q3, q4, q5⟩, q6, q7, q8⟩ := id hA3
      go_wp2_with fail
      refine (C4.out _ hB3).mono ?_
      rintro e w4 ⟨rfl, hb⟩
      have hB4 := hB3.trans (hb.mono hB3.size)
      have hs4 := hb.size
      have hA4 := hA3.below hb (by omega)
      have HK5 := Lib.hid ((HJ5.out.below hb).more hb.size)
      have HK6 := Lib.hid ((HJ6.out.below hb).more hb.size)
      have hmx : V.length ≤ 9223372036854775807 := by unfold maxLen at hk2; omega
      have c6 := SameInts_any A5 V.length k5 V A6 V.length k6 V w4 hmx hmx HK5.out HK6.out
      rw [decide_eq_true (rfl : V = V)] at c6
      have C6 := Lib.hid c6
      clear hb hA3 hB3 HJ5 HJ6 C4 c6 q0 q1 q2 q3 q4 q5 q6 q7 q8
      obtain ⟨⟨q0, q1, q2, q3, q4, q5⟩, q6, q7, q8⟩ := id hA4
      go_wp2_with fail
      refine C6.out.mono ?_
      rintro e w5 ⟨rfl, hb⟩
      have hB5 := hB4.trans (hb.mono hB4.size)
      have hs5 := hb.size
      have hA5 := hA4.below hb (by omega)
      have HL5 := Lib.hid ((HK5.out.below hb).more hb.size)
      clear hb hA4 hB4 HK5 HK6 C6 q0 q1 q2 q3 q4 q5 q6 q7 q8
      obtain ⟨⟨q0, q1, q2, q3, q4, q5⟩, q6, q7, q8⟩ := id hA5
      have c7 := C5.out A5 k5 w5 hB5 HL5.out
      have hB1 : E = 0 → BV = true := HL1.out
      have hB2 : B = true → E = 0 ∧ V.length ≤ m := HL2.out
      by_cases hE0 : E = 0
      · rw [hB1 hE0] at c7
        subst hE0
        have C7 := Lib.hid c7
        clear c7 C5 HL1 HL2 HL5
        cases B
        · clear hB2
          go_wp2_with fail
          refine C7.out.mono ?_
          rintro e w6 ⟨rfl, hb⟩
          have hB6 := hB5.trans (hb.mono hB5.size)
          have hs6 := hb.size
          have hA6 := hA5.below hb (by omega)
          clear hb hA5 hB5 C7 q0 q1 q2 q3 q4 q5 q6 q7 q8
          obtain ⟨⟨q0, q1, q2, q3, q4, q5⟩, q6, q7, q8⟩ := id hA6
          go_wp2_with (go_at_call 5; refine (awake_any _).mono ?_; rintro e w8 ⟨rfl, hb1⟩)
          go_ret
          exact ⟨rfl, hB6.trans (hb1.mono hB6.size)⟩
        · obtain ⟨-, hVm⟩ := hB2 rfl
          have hv1 : (V.length : Int) ≤ (m : Int) := by omega
          have hv2 : decide ((V.length : Int) ≤ (m : Int)) = true := decide_eq_true hv1
          have hv3 : decide (V.length ≤ m) = true := decide_eq_true hVm
          clear hB2
          go_wp2_with fail
          refine C7.out.mono ?_
          rintro e w6 ⟨rfl, hb⟩
          have hB6 := hB5.trans (hb.mono hB5.size)
          have hs6 := hb.size
          have hA6 := hA5.below hb (by omega)
          clear hb hA5 hB5 C7 q0 q1 q2 q3 q4 q5 q6 q7 q8
          obtain ⟨⟨q0, q1, q2, q3, q4, q5⟩, q6, q7, q8⟩ := id hA6
          go_wp2_with (go_at_call 5; refine (awake_any _).mono ?_; rintro e w8 ⟨rfl, hb1⟩)
          go_ret
          exact ⟨rfl, hB6.trans (hb1.mono hB6.size)⟩
      · have hE1 : (E == 0) = false := beq_eq_false_iff_ne.2 hE0
        have hBf : B = false := by
          cases h : B
          · rfl
          · exact absurd (hB2 h).1 hE0
        subst hBf
        clear c7 C5 HL1 HL2 HL5 hB1 hB2
        go_wp2_with (go_at_call 5; refine (awake_any _).mono ?_; rintro e w8 ⟨rfl, hb1⟩)
        go_ret
        exact ⟨rfl, hB5.trans (hb1.mono hB5.size)⟩
    · have hm9 : (80 : Int) < m := by omega
      have C0 := Lib.hid c0
      clear c0 hx hy hz hs
      go_enter Try.func3, Try.ntmps3
      go_wp2_with (first | (go_at_call 4; refine (C0.out _).mono ?_; rintro e w' ⟨rfl, rfl⟩) | (go_at_call 5; refine (awake_any _).mono ?_; rintro e w1 ⟨rfl, hb1⟩))
      go_ret
      exact ⟨rfl, (by repeat (first | exact Below.refl _ _ | assumption | refine Below.setCell ?_ (by first | (simp; done) | (simp; omega) | omega) _ | refine Below.drew ?_ | refine below_drewN ?_ _ | refine Below.alloc ?_ (by first | (simp; done) | (simp; omega) | omega) _ | refine below_alloc ?_ _ | refine below_step ?_ (by assumption)))⟩
  · have hs' : (decide (len ≤ 80) && decide (n ≤ 80)) = false := by simpa using hs
    rw [hs'] at c0
    have C0 := Lib.hid c0
    clear c0 hx hy hz hs hs'
    go_enter Try.func3, Try.ntmps3
    go_wp2_with (first | (go_at_call 4; refine (C0.out _).mono ?_; rintro e w' ⟨rfl, rfl⟩) | (go_at_call 5; refine (awake_any _).mono ?_; rintro e w1 ⟨rfl, hb1⟩))
    go_ret
    exact ⟨rfl, (by repeat (first | exact Below.refl _ _ | assumption | refine Below.setCell ?_ (by first | (simp; done) | (simp; omega) | omega) _ | refine Below.drew ?_ | refine below_drewN ?_ _ | refine Below.alloc ?_ (by first | (simp; done) | (simp; omega) | omega) _ | refine below_alloc ?_ _ | refine below_step ?_ (by assumption)))⟩
end Go.Proofs.Ytgapnhpmgidmhaa
