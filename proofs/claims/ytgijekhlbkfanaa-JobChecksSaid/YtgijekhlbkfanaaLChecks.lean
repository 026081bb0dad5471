/- JobChecks: the law's walk. -/
import Derived.Test.YtgijekhlbkfanaaJobZ
import Derived.Test.YtgijekhlbkfanaaJobG
set_option linter.unusedSimpArgs false
set_option linter.unusedVariables false
namespace Go.Proofs.Ytgijekhlbkfanaa
open Go.RowKit
attribute [local go_sem] Later.cell Same.cell

set_option maxRecDepth 20000 in
set_option maxHeartbeats 16000000 in
theorem checks_walk (A : Option Addr) (len cap : Nat) (xs : List TkR) (w : World) (hlc : len ≤ cap ∧ cap ≤ 9223372036854775807) (hP : Rows 4 tk4 dTR w w.heap.size A len xs) (hg : ∀ x ∈ xs, gTk w x) :
    Calls Try.prog 5 #[.slice A len cap] w fun e w' => e = .returned (.bool true) ∧ Below w.heap.size w w' := by
  have hx := plan_in hP hg
  obtain ⟨l, hl⟩ : ∃ l, l = xs.map (·.2) := ⟨_, rfl⟩
  rw [← hl] at hx
  have hSm : l.length ≤ 1000 → (∀ i, i < l.length → (tkA l i).af.length ≤ 1000) → Sml l := fun a b => by rw [hl] at a b ⊢; exact sml_in hg a b
  clear hP hg hl
  obtain rfl : l.length = len := hx.1
  have c0 := fun W => awake9_any W
  have cm := fun W (h : Below w.heap.size w W) => many_any A l.length cap l W (by omega) (hx.go h)
  have C0 := Lib.hid c0
  have CM := Lib.hid cm
  have HB0 := Lib.hid (Below.refl w.heap.size w)
  have HX := Lib.hid hx
  have HSM := Lib.hid hSm
  clear c0 cm hx hSm
  go_enter Try.func5, Try.ntmps5
  go_wp2_with fail
  refine (C0.out _).mono ?_
  rintro e w1 ⟨rfl, hb1⟩
  have HB1 := Lib.hid (HB0.out.trans (hb1.mono HB0.out.size))
  clear hb1
  go_wp2_with fail
  refine (CM.out _ HB1.out).mono ?_
  rintro e w1001 ⟨⟨b, rfl, hmb⟩, rfl⟩
  cases b
  · obtain ⟨m1, m2, m3⟩ := hmb rfl
    have hS := HSM.out (by omega) (fun i hi => by have := m1 i hi; omega)
    have c1 := fun W (h : Below w.heap.size w W) => Order_any A l.length cap l W hS (HX.out.go h)
    have c2 := fun W (h : Below w.heap.size w W) => rOrder_any A l.length cap l W hS (HX.out.go h)
    have c3 := fun W (h : Below w.heap.size w W) => Check_any A l.length cap l W hS (HX.out.go h)
    have c4 := fun W (h : Below w.heap.size w W) => rCheck_any A l.length cap l W hS (HX.out.go h)
    have c5 := fun W (h : Below w.heap.size w W) => Earliest_any A l.length cap l W hS (HX.out.go h)
    have c6 := fun W (h : Below w.heap.size w W) => rEarliest_any A l.length cap l W hS (HX.out.go h)
    have c7 := fun W (h : Below w.heap.size w W) => Latest_any A l.length cap l W hS (HX.out.go h)
    have c8 := fun W (h : Below w.heap.size w W) => rLatest_any A l.length cap l W hS (HX.out.go h)
    have c9 := fun W (h : Below w.heap.size w W) => Length_any A l.length cap l W hS (HX.out.go h)
    have c10 := fun W (h : Below w.heap.size w W) => rLength_any A l.length cap l W hS (HX.out.go h)
    generalize checkE l = E at *
    generalize lenE l = L at *
    generalize orX l = X1 at *
    generalize eaX l = X2 at *
    generalize laX l = X3 at *
    have C1 := Lib.hid c1
    have C2 := Lib.hid c2
    have C3 := Lib.hid c3
    have C4 := Lib.hid c4
    have C5 := Lib.hid c5
    have C6 := Lib.hid c6
    have C7 := Lib.hid c7
    have C8 := Lib.hid c8
    have C9 := Lib.hid c9
    have C10 := Lib.hid c10
    clear c1 c2 c3 c4 c5 c6 c7 c8 c9 c10 hmb m1 m2 m3 hS
    go_wp2_with fail
    refine (C1.out _ HB1.out).mono ?_
    rintro e w2 ⟨⟨va, rfl, hoa⟩, hb2⟩
    have HB2 := Lib.hid (HB1.out.trans (hb2.mono HB1.out.size))
    obtain ⟨Aa, ka, rfl, qa1, qa2, hIa, -⟩ := own_ints hoa
    clear hoa
    clear hb2
    go_wp2_with fail
    refine (C2.out _ HB2.out).mono ?_
    rintro e w3 ⟨⟨vb, rfl, hob⟩, hb3⟩
    have HB3 := Lib.hid (HB2.out.trans (hb3.mono HB2.out.size))
    replace hIa := hIa.go hb3
    obtain ⟨Ab, kb, rfl, qb1, qb2, hIb, -⟩ := own_ints hob
    clear hob
    clear hb3
    go_wp2_with fail
    refine (C3.out _ HB3.out).mono ?_
    rintro e w4 ⟨rfl, hb4⟩
    have HB4 := Lib.hid (HB3.out.trans (hb4.mono HB3.out.size))
    replace hIa := hIa.go hb4
    replace hIb := hIb.go hb4
    clear hb4
    go_wp2_with fail
    refine (C4.out _ HB4.out).mono ?_
    rintro e w5 ⟨rfl, hb5⟩
    have HB5 := Lib.hid (HB4.out.trans (hb5.mono HB4.out.size))
    replace hIa := hIa.go hb5
    replace hIb := hIb.go hb5
    clear hb5
    go_wp2_with fail
    have hq := SameInts6_any Aa (X1).length ka (X1) Ab (X1).length kb (X1) _ (by unfold maxLen at qa2; omega) (by unfold maxLen at qb2; omega) hIa hIb
    rw [decide_eq_true (rfl : (X1) = X1)] at hq
    refine (hq).mono ?_
    rintro e w6 ⟨rfl, hb6⟩
    have HB6 := Lib.hid (HB5.out.trans (hb6.mono HB5.out.size))
    replace hIa := hIa.go hb6
    replace hIb := hIb.go hb6
    clear hq
    clear hb6
    go_wp2_with fail
    refine (C5.out _ HB6.out).mono ?_
    rintro e w7 ⟨⟨vc, rfl, hoc⟩, hb7⟩
    have HB7 := Lib.hid (HB6.out.trans (hb7.mono HB6.out.size))
    obtain ⟨Ac, kc, rfl, qc1, qc2, hIc, -⟩ := own_ints hoc
    clear hoc
    clear hb7
    go_wp2_with fail
    refine (C6.out _ HB7.out).mono ?_
    rintro e w8 ⟨⟨vd, rfl, hod⟩, hb8⟩
    have HB8 := Lib.hid (HB7.out.trans (hb8.mono HB7.out.size))
    replace hIc := hIc.go hb8
    obtain ⟨Ad, kd, rfl, qd1, qd2, hId, -⟩ := own_ints hod
    clear hod
    clear hb8
    go_wp2_with fail
    have hq := SameInts6_any Ac (X2).length kc (X2) Ad (X2).length kd (X2) _ (by unfold maxLen at qc2; omega) (by unfold maxLen at qd2; omega) hIc hId
    rw [decide_eq_true (rfl : (X2) = X2)] at hq
    refine (hq).mono ?_
    rintro e w9 ⟨rfl, hb9⟩
    have HB9 := Lib.hid (HB8.out.trans (hb9.mono HB8.out.size))
    replace hIc := hIc.go hb9
    replace hId := hId.go hb9
    clear hq
    clear hb9
    go_wp2_with fail
    refine (C7.out _ HB9.out).mono ?_
    rintro e w10 ⟨⟨vf, rfl, hof⟩, hb10⟩
    have HB10 := Lib.hid (HB9.out.trans (hb10.mono HB9.out.size))
    obtain ⟨Af, kf, rfl, qf1, qf2, hIf, -⟩ := own_ints hof
    clear hof
    clear hb10
    go_wp2_with fail
    refine (C8.out _ HB10.out).mono ?_
    rintro e w11 ⟨⟨vg, rfl, hog⟩, hb11⟩
    have HB11 := Lib.hid (HB10.out.trans (hb11.mono HB10.out.size))
    replace hIf := hIf.go hb11
    obtain ⟨Ag, kg, rfl, qg1, qg2, hIg, -⟩ := own_ints hog
    clear hog
    clear hb11
    go_wp2_with fail
    have hq := SameInts6_any Af (X3).length kf (X3) Ag (X3).length kg (X3) _ (by unfold maxLen at qf2; omega) (by unfold maxLen at qg2; omega) hIf hIg
    rw [decide_eq_true (rfl : (X3) = X3)] at hq
    refine (hq).mono ?_
    rintro e w12 ⟨rfl, hb12⟩
    have HB12 := Lib.hid (HB11.out.trans (hb12.mono HB11.out.size))
    replace hIf := hIf.go hb12
    replace hIg := hIg.go hb12
    clear hq
    clear hb12
    go_wp2_with fail
    refine (C9.out _ HB12.out).mono ?_
    rintro e w13 ⟨rfl, hb13⟩
    have HB13 := Lib.hid (HB12.out.trans (hb13.mono HB12.out.size))
    clear hb13
    go_wp2_with fail
    refine (C10.out _ HB13.out).mono ?_
    rintro e w14 ⟨rfl, hb14⟩
    have HB14 := Lib.hid (HB13.out.trans (hb14.mono HB13.out.size))
    clear hb14
    go_wp2
    go_ret
    exact ⟨rfl, HB14.out⟩
  · clear hmb
    go_wp2
    go_ret
    exact ⟨rfl, HB1.out⟩
end Go.Proofs.Ytgijekhlbkfanaa
