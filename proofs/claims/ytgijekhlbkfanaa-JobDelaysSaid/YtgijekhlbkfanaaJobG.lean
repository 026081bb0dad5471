/- Plans: Order, Earliest, Latest of both, the reference's Length; many. -/
import Derived.Test.YtgijekhlbkfanaaJobR6
import Derived.Test.YtgijekhlbkfanaaJobQ6
set_option linter.unusedSimpArgs false
set_option linter.unusedVariables false
namespace Go.Proofs.Ytgijekhlbkfanaa
open Go.RowKit
attribute [local go_sem] Later.cell Same.cell

theorem rorder_ok (A : Option Addr) (cap : Nat) (l : List Tk) (w : World) (hS : Sml l) (hP : okP l) (hx : Plan w w.heap.size A l.length l) :
    Calls Try.prog 70 #[.slice A l.length cap] w fun e w' => (∃ v, e = .returned v ∧ w'.ownsRow w.heap.size 3 1 v (ord l).length (icells (iN (ord l)))) ∧ Below w.heap.size w w' :=
  rorder_any A l.length cap l w (by have := hP.len; omega) hP.names (fun i hi => by have := hP.few i hi; omega) hx
def orX (l : List Tk) : List Int := if checkE l = 0 then iN (ord l) else []
def eaX (l : List Tk) : List Int := if checkE l = 0 then ear l else []
def laX (l : List Tk) : List Int := if checkE l = 0 then latP l else []
set_option maxRecDepth 20000 in
set_option maxHeartbeats 8000000 in
theorem Order_any (A : Option Addr) (len cap : Nat) (l : List Tk) (w : World) (hS : Sml l) (hx : Plan w w.heap.size A len l) :
    Calls Try.prog 27 #[.slice A len cap] w fun e w' => (∃ v, e = .returned (.tuple #[v, .int .i64 (checkE l)]) ∧ w'.ownsRow w.heap.size 3 1 v (orX l).length (icells (orX l))) ∧ Below w.heap.size w w' := by
  obtain rfl : l.length = len := hx.1
  have c1 := Check_any A l.length cap l w hS hx
  by_cases h0 : checkE l = 0
  · have hP := check_spec h0
    have c3 : ∀ W, Below w.heap.size w W → Calls Try.prog _ #[.slice A l.length cap] W fun e w' => (∃ v, e = .returned v ∧ w'.ownsRow W.heap.size 3 1 v (orX l).length (icells (orX l))) ∧ Below W.heap.size W w' := fun W h => (order_any A l.length cap l W hS hP.names (hx.go h)).mono fun e w' hh => by
      obtain ⟨⟨v, h1, h2⟩, h3⟩ := hh
      have hX : orX l = iN (ord l) := if_pos h0
      have hl : (iN (ord l)).length = _ := iN_len _
      refine ⟨⟨v, h1, ?_⟩, h3⟩
      rw [hX, hl]
      first | exact h2 | (rw [show iN (ord l) = latR l from rfl]; exact h2)
    rw [h0] at c1 ⊢
    have C1 := Lib.hid c1
    have C3 := Lib.hid c3
    clear c1 c3 hx hS hP h0
    go_enter Try.func27, Try.ntmps27
    go_wp2_with fail
    refine C1.out.mono ?_
    rintro e w1 ⟨rfl, hb⟩
    have hB_w1 : Below w.heap.size w w1 := (by repeat (first | exact Below.refl _ _ | assumption | refine Below.setCell ?_ (by first | (simp; done) | (simp; omega) | omega) _ | refine Below.drew ?_ | refine below_drewN ?_ _ | refine Below.alloc ?_ (by first | (simp; done) | (simp; omega) | omega) _ | refine below_alloc ?_ _ | refine below_step ?_ (by assumption))); have hz_w1 := hB_w1.size; clear hb
    go_wp2_with fail
    refine (C3.out _ hB_w1).mono ?_
    rintro e w2 ⟨⟨v, rfl, ho⟩, hb⟩
    have HO := Lib.hid (jown_mono ho hz_w1)
    clear ho
    have hB_w2 : Below w.heap.size w w2 := (by repeat (first | exact Below.refl _ _ | assumption | refine Below.setCell ?_ (by first | (simp; done) | (simp; omega) | omega) _ | refine Below.drew ?_ | refine below_drewN ?_ _ | refine Below.alloc ?_ (by first | (simp; done) | (simp; omega) | omega) _ | refine below_alloc ?_ _ | refine below_step ?_ (by assumption))); have hz_w2 := hB_w2.size; clear hb hB_w1
    go_wp2
    go_ret2
    exact ⟨⟨_, rfl, HO.out⟩, (by repeat (first | exact Below.refl _ _ | assumption | refine Below.setCell ?_ (by first | (simp; done) | (simp; omega) | omega) _ | refine Below.drew ?_ | refine below_drewN ?_ _ | refine Below.alloc ?_ (by first | (simp; done) | (simp; omega) | omega) _ | refine below_alloc ?_ _ | refine below_step ?_ (by assumption)))⟩
  · have hne : (checkE l == 0) = false := by simpa using h0
    have hX : orX l = [] := if_neg h0
    rw [hX]
    generalize checkE l = E at *
    have C1 := Lib.hid c1
    clear c1 hx h0 hX
    go_enter Try.func27, Try.ntmps27
    go_wp2_with fail
    refine C1.out.mono ?_
    rintro e w1 ⟨rfl, hb⟩
    have hB_w1 : Below w.heap.size w w1 := (by repeat (first | exact Below.refl _ _ | assumption | refine Below.setCell ?_ (by first | (simp; done) | (simp; omega) | omega) _ | refine Below.drew ?_ | refine below_drewN ?_ _ | refine Below.alloc ?_ (by first | (simp; done) | (simp; omega) | omega) _ | refine below_alloc ?_ _ | refine below_step ?_ (by assumption))); have hz_w1 := hB_w1.size; clear hb
    go_wp2
    go_ret2
    exact ⟨⟨_, rfl, World.ownsRow_nil _ _ _ _⟩, (by repeat (first | exact Below.refl _ _ | assumption | refine Below.setCell ?_ (by first | (simp; done) | (simp; omega) | omega) _ | refine Below.drew ?_ | refine below_drewN ?_ _ | refine Below.alloc ?_ (by first | (simp; done) | (simp; omega) | omega) _ | refine below_alloc ?_ _ | refine below_step ?_ (by assumption)))⟩
set_option maxRecDepth 20000 in
set_option maxHeartbeats 8000000 in
theorem rOrder_any (A : Option Addr) (len cap : Nat) (l : List Tk) (w : World) (hS : Sml l) (hx : Plan w w.heap.size A len l) :
    Calls Try.prog 28 #[.slice A len cap] w fun e w' => (∃ v, e = .returned (.tuple #[v, .int .i64 (checkE l)]) ∧ w'.ownsRow w.heap.size 3 1 v (orX l).length (icells (orX l))) ∧ Below w.heap.size w w' := by
  obtain rfl : l.length = len := hx.1
  have c1 := rCheck_any A l.length cap l w hS hx
  by_cases h0 : checkE l = 0
  · have hP := check_spec h0
    have c3 : ∀ W, Below w.heap.size w W → Calls Try.prog _ #[.slice A l.length cap] W fun e w' => (∃ v, e = .returned v ∧ w'.ownsRow W.heap.size 3 1 v (orX l).length (icells (orX l))) ∧ Below W.heap.size W w' := fun W h => (rorder_ok A cap l W hS hP (hx.go h)).mono fun e w' hh => by
      obtain ⟨⟨v, h1, h2⟩, h3⟩ := hh
      have hX : orX l = iN (ord l) := if_pos h0
      have hl : (iN (ord l)).length = _ := iN_len _
      refine ⟨⟨v, h1, ?_⟩, h3⟩
      rw [hX, hl]
      first | exact h2 | (rw [show iN (ord l) = latR l from rfl]; exact h2)
    rw [h0] at c1 ⊢
    have C1 := Lib.hid c1
    have C3 := Lib.hid c3
    clear c1 c3 hx hS hP h0
    go_enter Try.func28, Try.ntmps28
    go_wp2_with fail
    refine C1.out.mono ?_
    rintro e w1 ⟨rfl, hb⟩
    have hB_w1 : Below w.heap.size w w1 := (by repeat (first | exact Below.refl _ _ | assumption | refine Below.setCell ?_ (by first | (simp; done) | (simp; omega) | omega) _ | refine Below.drew ?_ | refine below_drewN ?_ _ | refine Below.alloc ?_ (by first | (simp; done) | (simp; omega) | omega) _ | refine below_alloc ?_ _ | refine below_step ?_ (by assumption))); have hz_w1 := hB_w1.size; clear hb
    go_wp2_with fail
    refine (C3.out _ hB_w1).mono ?_
    rintro e w2 ⟨⟨v, rfl, ho⟩, hb⟩
    have HO := Lib.hid (jown_mono ho hz_w1)
    clear ho
    have hB_w2 : Below w.heap.size w w2 := (by repeat (first | exact Below.refl _ _ | assumption | refine Below.setCell ?_ (by first | (simp; done) | (simp; omega) | omega) _ | refine Below.drew ?_ | refine below_drewN ?_ _ | refine Below.alloc ?_ (by first | (simp; done) | (simp; omega) | omega) _ | refine below_alloc ?_ _ | refine below_step ?_ (by assumption))); have hz_w2 := hB_w2.size; clear hb hB_w1
    go_wp2
    go_ret2
    exact ⟨⟨_, rfl, HO.out⟩, (by repeat (first | exact Below.refl _ _ | assumption | refine Below.setCell ?_ (by first | (simp; done) | (simp; omega) | omega) _ | refine Below.drew ?_ | refine below_drewN ?_ _ | refine Below.alloc ?_ (by first | (simp; done) | (simp; omega) | omega) _ | refine below_alloc ?_ _ | refine below_step ?_ (by assumption)))⟩
  · have hne : (checkE l == 0) = false := by simpa using h0
    have hX : orX l = [] := if_neg h0
    rw [hX]
    generalize checkE l = E at *
    have C1 := Lib.hid c1
    clear c1 hx h0 hX
    go_enter Try.func28, Try.ntmps28
    go_wp2_with fail
    refine C1.out.mono ?_
    rintro e w1 ⟨rfl, hb⟩
    have hB_w1 : Below w.heap.size w w1 := (by repeat (first | exact Below.refl _ _ | assumption | refine Below.setCell ?_ (by first | (simp; done) | (simp; omega) | omega) _ | refine Below.drew ?_ | refine below_drewN ?_ _ | refine Below.alloc ?_ (by first | (simp; done) | (simp; omega) | omega) _ | refine below_alloc ?_ _ | refine below_step ?_ (by assumption))); have hz_w1 := hB_w1.size; clear hb
    go_wp2
    go_ret2
    exact ⟨⟨_, rfl, World.ownsRow_nil _ _ _ _⟩, (by repeat (first | exact Below.refl _ _ | assumption | refine Below.setCell ?_ (by first | (simp; done) | (simp; omega) | omega) _ | refine Below.drew ?_ | refine below_drewN ?_ _ | refine Below.alloc ?_ (by first | (simp; done) | (simp; omega) | omega) _ | refine below_alloc ?_ _ | refine below_step ?_ (by assumption)))⟩
set_option maxRecDepth 20000 in
set_option maxHeartbeats 8000000 in
theorem Earliest_any (A : Option Addr) (len cap : Nat) (l : List Tk) (w : World) (hS : Sml l) (hx : Plan w w.heap.size A len l) :
    Calls Try.prog 31 #[.slice A len cap] w fun e w' => (∃ v, e = .returned (.tuple #[v, .int .i64 (checkE l)]) ∧ w'.ownsRow w.heap.size 3 1 v (eaX l).length (icells (eaX l))) ∧ Below w.heap.size w w' := by
  obtain rfl : l.length = len := hx.1
  have c1 := Check_any A l.length cap l w hS hx
  by_cases h0 : checkE l = 0
  · have hP := check_spec h0
    have c3 : ∀ W, Below w.heap.size w W → Calls Try.prog _ #[.slice A l.length cap] W fun e w' => (∃ v, e = .returned v ∧ w'.ownsRow W.heap.size 3 1 v (eaX l).length (icells (eaX l))) ∧ Below W.heap.size W w' := fun W h => (earliest_any A l.length cap l W hS hP (hx.go h)).mono fun e w' hh => by
      obtain ⟨⟨v, h1, h2⟩, h3⟩ := hh
      have hX : eaX l = ear l := if_pos h0
      have hl : (ear l).length = _ := ear_len l
      refine ⟨⟨v, h1, ?_⟩, h3⟩
      rw [hX, hl]
      first | exact h2 | (rw [show ear l = latR l from rfl]; exact h2)
    rw [h0] at c1 ⊢
    have C1 := Lib.hid c1
    have C3 := Lib.hid c3
    clear c1 c3 hx hS hP h0
    go_enter Try.func31, Try.ntmps31
    go_wp2_with fail
    refine C1.out.mono ?_
    rintro e w1 ⟨rfl, hb⟩
    have hB_w1 : Below w.heap.size w w1 := (by repeat (first | exact Below.refl _ _ | assumption | refine Below.setCell ?_ (by first | (simp; done) | (simp; omega) | omega) _ | refine Below.drew ?_ | refine below_drewN ?_ _ | refine Below.alloc ?_ (by first | (simp; done) | (simp; omega) | omega) _ | refine below_alloc ?_ _ | refine below_step ?_ (by assumption))); have hz_w1 := hB_w1.size; clear hb
    go_wp2_with fail
    refine (C3.out _ hB_w1).mono ?_
    rintro e w2 ⟨⟨v, rfl, ho⟩, hb⟩
    have HO := Lib.hid (jown_mono ho hz_w1)
    clear ho
    have hB_w2 : Below w.heap.size w w2 := (by repeat (first | exact Below.refl _ _ | assumption | refine Below.setCell ?_ (by first | (simp; done) | (simp; omega) | omega) _ | refine Below.drew ?_ | refine below_drewN ?_ _ | refine Below.alloc ?_ (by first | (simp; done) | (simp; omega) | omega) _ | refine below_alloc ?_ _ | refine below_step ?_ (by assumption))); have hz_w2 := hB_w2.size; clear hb hB_w1
    go_wp2
    go_ret2
    exact ⟨⟨_, rfl, HO.out⟩, (by repeat (first | exact Below.refl _ _ | assumption | refine Below.setCell ?_ (by first | (simp; done) | (simp; omega) | omega) _ | refine Below.drew ?_ | refine below_drewN ?_ _ | refine Below.alloc ?_ (by first | (simp; done) | (simp; omega) | omega) _ | refine below_alloc ?_ _ | refine below_step ?_ (by assumption)))⟩
  · have hne : (checkE l == 0) = false := by simpa using h0
    have hX : eaX l = [] := if_neg h0
    rw [hX]
    generalize checkE l = E at *
    have C1 := Lib.hid c1
    clear c1 hx h0 hX
    go_enter Try.func31, Try.ntmps31
    go_wp2_with fail
    refine C1.out.mono ?_
    rintro e w1 ⟨rfl, hb⟩
    have hB_w1 : Below w.heap.size w w1 := (by repeat (first | exact Below.refl _ _ | assumption | refine Below.setCell ?_ (by first | (simp; done) | (simp; omega) | omega) _ | refine Below.drew ?_ | refine below_drewN ?_ _ | refine Below.alloc ?_ (by first | (simp; done) | (simp; omega) | omega) _ | refine below_alloc ?_ _ | refine below_step ?_ (by assumption))); have hz_w1 := hB_w1.size; clear hb
    go_wp2
    go_ret2
    exact ⟨⟨_, rfl, World.ownsRow_nil _ _ _ _⟩, (by repeat (first | exact Below.refl _ _ | assumption | refine Below.setCell ?_ (by first | (simp; done) | (simp; omega) | omega) _ | refine Below.drew ?_ | refine below_drewN ?_ _ | refine Below.alloc ?_ (by first | (simp; done) | (simp; omega) | omega) _ | refine below_alloc ?_ _ | refine below_step ?_ (by assumption)))⟩
set_option maxRecDepth 20000 in
set_option maxHeartbeats 8000000 in
theorem rEarliest_any (A : Option Addr) (len cap : Nat) (l : List Tk) (w : World) (hS : Sml l) (hx : Plan w w.heap.size A len l) :
    Calls Try.prog 32 #[.slice A len cap] w fun e w' => (∃ v, e = .returned (.tuple #[v, .int .i64 (checkE l)]) ∧ w'.ownsRow w.heap.size 3 1 v (eaX l).length (icells (eaX l))) ∧ Below w.heap.size w w' := by
  obtain rfl : l.length = len := hx.1
  have c1 := rCheck_any A l.length cap l w hS hx
  by_cases h0 : checkE l = 0
  · have hP := check_spec h0
    have c3 : ∀ W, Below w.heap.size w W → Calls Try.prog _ #[.slice A l.length cap] W fun e w' => (∃ v, e = .returned v ∧ w'.ownsRow W.heap.size 3 1 v (eaX l).length (icells (eaX l))) ∧ Below W.heap.size W w' := fun W h => (rearliest_any A l.length cap l W hS hP (hx.go h)).mono fun e w' hh => by
      obtain ⟨⟨v, h1, h2⟩, h3⟩ := hh
      have hX : eaX l = ear l := if_pos h0
      have hl : (ear l).length = _ := ear_len l
      refine ⟨⟨v, h1, ?_⟩, h3⟩
      rw [hX, hl]
      first | exact h2 | (rw [show ear l = latR l from rfl]; exact h2)
    rw [h0] at c1 ⊢
    have C1 := Lib.hid c1
    have C3 := Lib.hid c3
    clear c1 c3 hx hS hP h0
    go_enter Try.func32, Try.ntmps32
    go_wp2_with fail
    refine C1.out.mono ?_
    rintro e w1 ⟨rfl, hb⟩
    have hB_w1 : Below w.heap.size w w1 := (by repeat (first | exact Below.refl _ _ | assumption | refine Below.setCell ?_ (by first | (simp; done) | (simp; omega) | omega) _ | refine Below.drew ?_ | refine below_drewN ?_ _ | refine Below.alloc ?_ (by first | (simp; done) | (simp; omega) | omega) _ | refine below_alloc ?_ _ | refine below_step ?_ (by assumption))); have hz_w1 := hB_w1.size; clear hb
    go_wp2_with fail
    refine (C3.out _ hB_w1).mono ?_
    rintro e w2 ⟨⟨v, rfl, ho⟩, hb⟩
    have HO := Lib.hid (jown_mono ho hz_w1)
    clear ho
    have hB_w2 : Below w.heap.size w w2 := (by repeat (first | exact Below.refl _ _ | assumption | refine Below.setCell ?_ (by first | (simp; done) | (simp; omega) | omega) _ | refine Below.drew ?_ | refine below_drewN ?_ _ | refine Below.alloc ?_ (by first | (simp; done) | (simp; omega) | omega) _ | refine below_alloc ?_ _ | refine below_step ?_ (by assumption))); have hz_w2 := hB_w2.size; clear hb hB_w1
    go_wp2
    go_ret2
    exact ⟨⟨_, rfl, HO.out⟩, (by repeat (first | exact Below.refl _ _ | assumption | refine Below.setCell ?_ (by first | (simp; done) | (simp; omega) | omega) _ | refine Below.drew ?_ | refine below_drewN ?_ _ | refine Below.alloc ?_ (by first | (simp; done) | (simp; omega) | omega) _ | refine below_alloc ?_ _ | refine below_step ?_ (by assumption)))⟩
  · have hne : (checkE l == 0) = false := by simpa using h0
    have hX : eaX l = [] := if_neg h0
    rw [hX]
    generalize checkE l = E at *
    have C1 := Lib.hid c1
    clear c1 hx h0 hX
    go_enter Try.func32, Try.ntmps32
    go_wp2_with fail
    refine C1.out.mono ?_
    rintro e w1 ⟨rfl, hb⟩
    have hB_w1 : Below w.heap.size w w1 := (by repeat (first | exact Below.refl _ _ | assumption | refine Below.setCell ?_ (by first | (simp; done) | (simp; omega) | omega) _ | refine Below.drew ?_ | refine below_drewN ?_ _ | refine Below.alloc ?_ (by first | (simp; done) | (simp; omega) | omega) _ | refine below_alloc ?_ _ | refine below_step ?_ (by assumption))); have hz_w1 := hB_w1.size; clear hb
    go_wp2
    go_ret2
    exact ⟨⟨_, rfl, World.ownsRow_nil _ _ _ _⟩, (by repeat (first | exact Below.refl _ _ | assumption | refine Below.setCell ?_ (by first | (simp; done) | (simp; omega) | omega) _ | refine Below.drew ?_ | refine below_drewN ?_ _ | refine Below.alloc ?_ (by first | (simp; done) | (simp; omega) | omega) _ | refine below_alloc ?_ _ | refine below_step ?_ (by assumption)))⟩
set_option maxRecDepth 20000 in
set_option maxHeartbeats 8000000 in
theorem Latest_any (A : Option Addr) (len cap : Nat) (l : List Tk) (w : World) (hS : Sml l) (hx : Plan w w.heap.size A len l) :
    Calls Try.prog 33 #[.slice A len cap] w fun e w' => (∃ v, e = .returned (.tuple #[v, .int .i64 (checkE l)]) ∧ w'.ownsRow w.heap.size 3 1 v (laX l).length (icells (laX l))) ∧ Below w.heap.size w w' := by
  obtain rfl : l.length = len := hx.1
  have c1 := Check_any A l.length cap l w hS hx
  by_cases h0 : checkE l = 0
  · have hP := check_spec h0
    have c3 : ∀ W, Below w.heap.size w W → Calls Try.prog _ #[.slice A l.length cap] W fun e w' => (∃ v, e = .returned v ∧ w'.ownsRow W.heap.size 3 1 v (laX l).length (icells (laX l))) ∧ Below W.heap.size W w' := fun W h => (latest_any A l.length cap l W hS hP (hx.go h)).mono fun e w' hh => by
      obtain ⟨⟨v, h1, h2⟩, h3⟩ := hh
      have hX : laX l = latP l := if_pos h0
      have hl : (latP l).length = _ := latP_len l
      refine ⟨⟨v, h1, ?_⟩, h3⟩
      rw [hX, hl]
      first | exact h2 | (rw [show latP l = latR l from rfl]; exact h2)
    rw [h0] at c1 ⊢
    have C1 := Lib.hid c1
    have C3 := Lib.hid c3
    clear c1 c3 hx hS hP h0
    go_enter Try.func33, Try.ntmps33
    go_wp2_with fail
    refine C1.out.mono ?_
    rintro e w1 ⟨rfl, hb⟩
    have hB_w1 : Below w.heap.size w w1 := (by repeat (first | exact Below.refl _ _ | assumption | refine Below.setCell ?_ (by first | (simp; done) | (simp; omega) | omega) _ | refine Below.drew ?_ | refine below_drewN ?_ _ | refine Below.alloc ?_ (by first | (simp; done) | (simp; omega) | omega) _ | refine below_alloc ?_ _ | refine below_step ?_ (by assumption))); have hz_w1 := hB_w1.size; clear hb
    go_wp2_with fail
    refine (C3.out _ hB_w1).mono ?_
    rintro e w2 ⟨⟨v, rfl, ho⟩, hb⟩
    have HO := Lib.hid (jown_mono ho hz_w1)
    clear ho
    have hB_w2 : Below w.heap.size w w2 := (by repeat (first | exact Below.refl _ _ | assumption | refine Below.setCell ?_ (by first | (simp; done) | (simp; omega) | omega) _ | refine Below.drew ?_ | refine below_drewN ?_ _ | refine Below.alloc ?_ (by first | (simp; done) | (simp; omega) | omega) _ | refine below_alloc ?_ _ | refine below_step ?_ (by assumption))); have hz_w2 := hB_w2.size; clear hb hB_w1
    go_wp2
    go_ret2
    exact ⟨⟨_, rfl, HO.out⟩, (by repeat (first | exact Below.refl _ _ | assumption | refine Below.setCell ?_ (by first | (simp; done) | (simp; omega) | omega) _ | refine Below.drew ?_ | refine below_drewN ?_ _ | refine Below.alloc ?_ (by first | (simp; done) | (simp; omega) | omega) _ | refine below_alloc ?_ _ | refine below_step ?_ (by assumption)))⟩
  · have hne : (checkE l == 0) = false := by simpa using h0
    have hX : laX l = [] := if_neg h0
    rw [hX]
    generalize checkE l = E at *
    have C1 := Lib.hid c1
    clear c1 hx h0 hX
    go_enter Try.func33, Try.ntmps33
    go_wp2_with fail
    refine C1.out.mono ?_
    rintro e w1 ⟨rfl, hb⟩
    have hB_w1 : Below w.heap.size w w1 := (by repeat (first | exact Below.refl _ _ | assumption | refine Below.setCell ?_ (by first | (simp; done) | (simp; omega) | omega) _ | refine Below.drew ?_ | refine below_drewN ?_ _ | refine Below.alloc ?_ (by first | (simp; done) | (simp; omega) | omega) _ | refine below_alloc ?_ _ | refine below_step ?_ (by assumption))); have hz_w1 := hB_w1.size; clear hb
    go_wp2
    go_ret2
    exact ⟨⟨_, rfl, World.ownsRow_nil _ _ _ _⟩, (by repeat (first | exact Below.refl _ _ | assumption | refine Below.setCell ?_ (by first | (simp; done) | (simp; omega) | omega) _ | refine Below.drew ?_ | refine below_drewN ?_ _ | refine Below.alloc ?_ (by first | (simp; done) | (simp; omega) | omega) _ | refine below_alloc ?_ _ | refine below_step ?_ (by assumption)))⟩
set_option maxRecDepth 20000 in
set_option maxHeartbeats 8000000 in
theorem rLatest_any (A : Option Addr) (len cap : Nat) (l : List Tk) (w : World) (hS : Sml l) (hx : Plan w w.heap.size A len l) :
    Calls Try.prog 34 #[.slice A len cap] w fun e w' => (∃ v, e = .returned (.tuple #[v, .int .i64 (checkE l)]) ∧ w'.ownsRow w.heap.size 3 1 v (laX l).length (icells (laX l))) ∧ Below w.heap.size w w' := by
  obtain rfl : l.length = len := hx.1
  have c1 := rCheck_any A l.length cap l w hS hx
  by_cases h0 : checkE l = 0
  · have hP := check_spec h0
    have c3 : ∀ W, Below w.heap.size w W → Calls Try.prog _ #[.slice A l.length cap] W fun e w' => (∃ v, e = .returned v ∧ w'.ownsRow W.heap.size 3 1 v (laX l).length (icells (laX l))) ∧ Below W.heap.size W w' := fun W h => (rlatest_any A l.length cap l W hS hP (hx.go h)).mono fun e w' hh => by
      obtain ⟨⟨v, h1, h2⟩, h3⟩ := hh
      have hX : laX l = latP l := if_pos h0
      have hl : (latP l).length = _ := latP_len l
      refine ⟨⟨v, h1, ?_⟩, h3⟩
      rw [hX, hl]
      first | exact h2 | (rw [show latP l = latR l from lat_eq hP]; exact h2)
    rw [h0] at c1 ⊢
    have C1 := Lib.hid c1
    have C3 := Lib.hid c3
    clear c1 c3 hx hS hP h0
    go_enter Try.func34, Try.ntmps34
    go_wp2_with fail
    refine C1.out.mono ?_
    rintro e w1 ⟨rfl, hb⟩
    have hB_w1 : Below w.heap.size w w1 := (by repeat (first | exact Below.refl _ _ | assumption | refine Below.setCell ?_ (by first | (simp; done) | (simp; omega) | omega) _ | refine Below.drew ?_ | refine below_drewN ?_ _ | refine Below.alloc ?_ (by first | (simp; done) | (simp; omega) | omega) _ | refine below_alloc ?_ _ | refine below_step ?_ (by assumption))); have hz_w1 := hB_w1.size; clear hb
    go_wp2_with fail
    refine (C3.out _ hB_w1).mono ?_
    rintro e w2 ⟨⟨v, rfl, ho⟩, hb⟩
    have HO := Lib.hid (jown_mono ho hz_w1)
    clear ho
    have hB_w2 : Below w.heap.size w w2 := (by repeat (first | exact Below.refl _ _ | assumption | refine Below.setCell ?_ (by first | (simp; done) | (simp; omega) | omega) _ | refine Below.drew ?_ | refine below_drewN ?_ _ | refine Below.alloc ?_ (by first | (simp; done) | (simp; omega) | omega) _ | refine below_alloc ?_ _ | refine below_step ?_ (by assumption))); have hz_w2 := hB_w2.size; clear hb hB_w1
    go_wp2
    go_ret2
    exact ⟨⟨_, rfl, HO.out⟩, (by repeat (first | exact Below.refl _ _ | assumption | refine Below.setCell ?_ (by first | (simp; done) | (simp; omega) | omega) _ | refine Below.drew ?_ | refine below_drewN ?_ _ | refine Below.alloc ?_ (by first | (simp; done) | (simp; omega) | omega) _ | refine below_alloc ?_ _ | refine below_step ?_ (by assumption)))⟩
  · have hne : (checkE l == 0) = false := by simpa using h0
    have hX : laX l = [] := if_neg h0
    rw [hX]
    generalize checkE l = E at *
    have C1 := Lib.hid c1
    clear c1 hx h0 hX
    go_enter Try.func34, Try.ntmps34
    go_wp2_with fail
    refine C1.out.mono ?_
    rintro e w1 ⟨rfl, hb⟩
    have hB_w1 : Below w.heap.size w w1 := (by repeat (first | exact Below.refl _ _ | assumption | refine Below.setCell ?_ (by first | (simp; done) | (simp; omega) | omega) _ | refine Below.drew ?_ | refine below_drewN ?_ _ | refine Below.alloc ?_ (by first | (simp; done) | (simp; omega) | omega) _ | refine below_alloc ?_ _ | refine below_step ?_ (by assumption))); have hz_w1 := hB_w1.size; clear hb
    go_wp2
    go_ret2
    exact ⟨⟨_, rfl, World.ownsRow_nil _ _ _ _⟩, (by repeat (first | exact Below.refl _ _ | assumption | refine Below.setCell ?_ (by first | (simp; done) | (simp; omega) | omega) _ | refine Below.drew ?_ | refine below_drewN ?_ _ | refine Below.alloc ?_ (by first | (simp; done) | (simp; omega) | omega) _ | refine below_alloc ?_ _ | refine below_step ?_ (by assumption)))⟩
set_option maxRecDepth 20000 in
set_option maxHeartbeats 8000000 in
theorem rLength_any (A : Option Addr) (len cap : Nat) (l : List Tk) (w : World) (hS : Sml l) (hx : Plan w w.heap.size A len l) :
    Calls Try.prog 35 #[.slice A len cap] w fun e w' => e = .returned (.tuple #[.int .i64 (lenE l), .int .i64 (checkE l)]) ∧ Below w.heap.size w w' := by
  have hl := hx.1
  have c1 := rCheck_any A len cap l w hS hx
  have hE : lenE l = if checkE l = 0 then lenV l else 0 := rfl
  by_cases h0 : checkE l = 0
  · have hP := check_spec h0
    have c2 := fun W (h : Below w.heap.size w W) => rearliest_any A len cap l W hS hP (hx.go h)
    have c3 := fun A' cap' W (h : Below w.heap.size w W) (hy : Ints W W.heap.size A' len (ear l)) => rends_any A len cap l A' cap' (ear l) W hP (hx.go h) hy (ear_bdE hP)
    rw [if_pos h0] at hE
    rw [h0] at c1
    rw [h0, hE]
    change ∀ A' cap' W _ _, Calls _ _ _ _ (fun e w' => e = .returned (.int .i64 (lenV l)) ∧ _) at c3
    generalize lenV l = L at *
    have C1 := Lib.hid c1
    have C2 := Lib.hid c2
    have C3 := Lib.hid c3
    clear c1 c2 c3 hx hE h0 hP hl
    go_enter Try.func35, Try.ntmps35
    go_wp2_with fail
    refine C1.out.mono ?_
    rintro e w1 ⟨rfl, hb⟩
    have hB_w1 : Below w.heap.size w w1 := (by repeat (first | exact Below.refl _ _ | assumption | refine Below.setCell ?_ (by first | (simp; done) | (simp; omega) | omega) _ | refine Below.drew ?_ | refine below_drewN ?_ _ | refine Below.alloc ?_ (by first | (simp; done) | (simp; omega) | omega) _ | refine below_alloc ?_ _ | refine below_step ?_ (by assumption))); have hz_w1 := hB_w1.size; clear hb
    go_wp2_with fail
    refine (C2.out _ hB_w1).mono ?_
    rintro e w2 ⟨⟨v, rfl, ho⟩, hb⟩
    obtain ⟨A1, cap1, rfl, hq1, hq2, hI, -⟩ := own_ints ho
    have HI := Lib.hid hI
    clear ho hI
    have hB_w2 : Below w.heap.size w w2 := (by repeat (first | exact Below.refl _ _ | assumption | refine Below.setCell ?_ (by first | (simp; done) | (simp; omega) | omega) _ | refine Below.drew ?_ | refine below_drewN ?_ _ | refine Below.alloc ?_ (by first | (simp; done) | (simp; omega) | omega) _ | refine below_alloc ?_ _ | refine below_step ?_ (by assumption))); have hz_w2 := hB_w2.size; clear hb hB_w1
    go_wp2_with fail
    refine (C3.out A1 cap1 _ hB_w2 HI.out).mono ?_
    rintro e w3 ⟨rfl, hb⟩
    have hB_w3 : Below w.heap.size w w3 := (by repeat (first | exact Below.refl _ _ | assumption | refine Below.setCell ?_ (by first | (simp; done) | (simp; omega) | omega) _ | refine Below.drew ?_ | refine below_drewN ?_ _ | refine Below.alloc ?_ (by first | (simp; done) | (simp; omega) | omega) _ | refine below_alloc ?_ _ | refine below_step ?_ (by assumption))); have hz_w3 := hB_w3.size; clear hb hB_w2
    go_wp2
    go_ret2
    exact ⟨rfl, (by repeat (first | exact Below.refl _ _ | assumption | refine Below.setCell ?_ (by first | (simp; done) | (simp; omega) | omega) _ | refine Below.drew ?_ | refine below_drewN ?_ _ | refine Below.alloc ?_ (by first | (simp; done) | (simp; omega) | omega) _ | refine below_alloc ?_ _ | refine below_step ?_ (by assumption)))⟩
  · rw [if_neg h0] at hE
    rw [hE]
    have hne : (checkE l == 0) = false := by simpa using h0
    generalize checkE l = E at *
    have C1 := Lib.hid c1
    clear c1 hx hE h0
    go_enter Try.func35, Try.ntmps35
    go_wp2_with fail
    refine C1.out.mono ?_
    rintro e w1 ⟨rfl, hb⟩
    have hB_w1 : Below w.heap.size w w1 := (by repeat (first | exact Below.refl _ _ | assumption | refine Below.setCell ?_ (by first | (simp; done) | (simp; omega) | omega) _ | refine Below.drew ?_ | refine below_drewN ?_ _ | refine Below.alloc ?_ (by first | (simp; done) | (simp; omega) | omega) _ | refine below_alloc ?_ _ | refine below_step ?_ (by assumption))); have hz_w1 := hB_w1.size; clear hb
    go_wp2
    go_ret2
    exact ⟨rfl, (by repeat (first | exact Below.refl _ _ | assumption | refine Below.setCell ?_ (by first | (simp; done) | (simp; omega) | omega) _ | refine Below.drew ?_ | refine below_drewN ?_ _ | refine Below.alloc ?_ (by first | (simp; done) | (simp; omega) | omega) _ | refine below_alloc ?_ _ | refine below_step ?_ (by assumption)))⟩
end Go.Proofs.Ytgijekhlbkfanaa
