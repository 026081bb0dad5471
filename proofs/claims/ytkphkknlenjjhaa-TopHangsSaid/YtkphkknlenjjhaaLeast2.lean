/- 'least' with the closures of Walk and Level. -/
import Derived.Test.YtkphkknlenjjhaaLeast
set_option linter.unusedSimpArgs false
set_option linter.unusedVariables false
namespace Go.Proofs.Ytkphkknlenjjhaa
open Go.RowKit

set_option maxHeartbeats 1000000 in
theorem least28_any (n : Int) (p1 p2 p3 p4 : Option Addr) (p : Int → Bool) (w : World) (h0 : 0 ≤ n) (h1 : n ≤ 100000) (hm : ∀ a b, 0 ≤ a → a ≤ b → b ≤ n → p a = true → p b = true)
    (hF : ∀ a W, 0 ≤ a → a ≤ n → Below w.heap.size w W → Calls Try.prog 28 #[.int .i64 a, .pointer p1, .pointer p2, .pointer p3, .pointer p4] W fun e w' => e = .returned (.bool (p a)) ∧ Below W.heap.size W w') :
    Calls Try.prog 27 #[.int .i64 n, .func (.func 28) #[] #[.pointer p1, .pointer p2, .pointer p3, .pointer p4]] w fun e w' => e = .returned (.int .i64 (leastC p n)) ∧ Below w.heap.size w w' := by
  have HF := Lib.hid hF
  have HM := Lib.hid hm
  clear hF hm
  go_enter Try.func27, Try.ntmps27
  go_wp2
  go_loopw [5, 6] (fun x y wr => ∃ lo hi : Int, x = .int .i64 lo ∧ y = .int .i64 hi ∧ (-1 ≤ lo ∧ lo < hi ∧ hi ≤ n + 1) ∧ Hid ((0 ≤ lo → p lo = false) ∧ (hi ≤ n → p hi = true)) ∧ Below w.heap.size w wr) (fun x y _ => (intOf y - intOf x).toNat)
  case atStart => exact ⟨-1, n + 1, rfl, rfl, by omega, ⟨fun h => absurd h (by omega), fun h => absurd h (by omega)⟩, Below.refl _ _⟩
  case round =>
    obtain ⟨lo, hi, rfl, rfl, ⟨a1, a2, a3⟩, hinv, hB⟩ := hrel
    by_cases hlt : 1 < hi - lo
    · have hat : 0 ≤ lo + hi := by omega
      have hat2 : lo < (lo + hi) / 2 ∧ (lo + hi) / 2 < hi := by omega
      have c1 := fun W (h : Below w.heap.size w W) => HF.out ((lo + hi) / 2) W (by omega) (by omega) h
      by_cases hp : p ((lo + hi) / 2) = true
      · rw [hp] at c1
        have C1 := Lib.hid c1
        clear c1
        go_wp2_with (go_at_call 28; refine (C1.out _ (by repeat (first | exact Below.refl _ _ | assumption | refine Below.setCell ?_ (by first | (simp; done) | (simp; omega) | omega) _ | refine Below.drew ?_ | refine below_drewN ?_ _ | refine Below.alloc ?_ (by first | (simp; done) | (simp; omega) | omega) _ | refine below_alloc ?_ _ | refine below_step ?_ (by assumption)))).mono ?_; rintro e w3 ⟨rfl, hb⟩)
        go_roundw
        case rel => exact ⟨lo, (lo + hi) / 2, rfl, rfl, by omega, ⟨hinv.out.1, fun _ => hp⟩, (by repeat (first | exact Below.refl _ _ | assumption | refine Below.setCell ?_ (by first | (simp; done) | (simp; omega) | omega) _ | refine Below.drew ?_ | refine below_drewN ?_ _ | refine Below.alloc ?_ (by first | (simp; done) | (simp; omega) | omega) _ | refine below_alloc ?_ _ | refine below_step ?_ (by assumption)))⟩
        case measure => simp [intOf]; omega
      · have hp' : p ((lo + hi) / 2) = false := by simpa using hp
        rw [hp'] at c1
        have C1 := Lib.hid c1
        clear c1
        go_wp2_with (go_at_call 28; refine (C1.out _ (by repeat (first | exact Below.refl _ _ | assumption | refine Below.setCell ?_ (by first | (simp; done) | (simp; omega) | omega) _ | refine Below.drew ?_ | refine below_drewN ?_ _ | refine Below.alloc ?_ (by first | (simp; done) | (simp; omega) | omega) _ | refine below_alloc ?_ _ | refine below_step ?_ (by assumption)))).mono ?_; rintro e w3 ⟨rfl, hb⟩)
        go_roundw
        case rel => exact ⟨(lo + hi) / 2, hi, rfl, rfl, by omega, ⟨fun _ => hp', hinv.out.2⟩, (by repeat (first | exact Below.refl _ _ | assumption | refine Below.setCell ?_ (by first | (simp; done) | (simp; omega) | omega) _ | refine Below.drew ?_ | refine below_drewN ?_ _ | refine Below.alloc ?_ (by first | (simp; done) | (simp; omega) | omega) _ | refine below_alloc ?_ _ | refine below_step ?_ (by assumption)))⟩
        case measure => simp [intOf]; omega
    · have hl : Hid (leastC p n = hi) := (LSpec.of HM.out a1 (by omega) a3 hinv.out.1 hinv.out.2).eq
      go_wp2
      go_ret
      exact ⟨ret_int hl.out.symm, (by repeat (first | exact Below.refl _ _ | assumption | refine Below.setCell ?_ (by first | (simp; done) | (simp; omega) | omega) _ | refine Below.drew ?_ | refine below_drewN ?_ _ | refine Below.alloc ?_ (by first | (simp; done) | (simp; omega) | omega) _ | refine below_alloc ?_ _ | refine below_step ?_ (by assumption)))⟩
set_option maxHeartbeats 1000000 in
theorem least30_any (n : Int) (p1 p2 p3 p4 : Option Addr) (p : Int → Bool) (w : World) (h0 : 0 ≤ n) (h1 : n ≤ 100000) (hm : ∀ a b, 0 ≤ a → a ≤ b → b ≤ n → p a = true → p b = true)
    (hF : ∀ a W, 0 ≤ a → a ≤ n → Below w.heap.size w W → Calls Try.prog 30 #[.int .i64 a, .pointer p1, .pointer p2, .pointer p3, .pointer p4] W fun e w' => e = .returned (.bool (p a)) ∧ Below W.heap.size W w') :
    Calls Try.prog 27 #[.int .i64 n, .func (.func 30) #[] #[.pointer p1, .pointer p2, .pointer p3, .pointer p4]] w fun e w' => e = .returned (.int .i64 (leastC p n)) ∧ Below w.heap.size w w' := by
  have HF := Lib.hid hF
  have HM := Lib.hid hm
  clear hF hm
  go_enter Try.func27, Try.ntmps27
  go_wp2
  go_loopw [5, 6] (fun x y wr => ∃ lo hi : Int, x = .int .i64 lo ∧ y = .int .i64 hi ∧ (-1 ≤ lo ∧ lo < hi ∧ hi ≤ n + 1) ∧ Hid ((0 ≤ lo → p lo = false) ∧ (hi ≤ n → p hi = true)) ∧ Below w.heap.size w wr) (fun x y _ => (intOf y - intOf x).toNat)
  case atStart => exact ⟨-1, n + 1, rfl, rfl, by omega, ⟨fun h => absurd h (by omega), fun h => absurd h (by omega)⟩, Below.refl _ _⟩
  case round =>
    obtain ⟨lo, hi, rfl, rfl, ⟨a1, a2, a3⟩, hinv, hB⟩ := hrel
    by_cases hlt : 1 < hi - lo
    · have hat : 0 ≤ lo + hi := by omega
      have hat2 : lo < (lo + hi) / 2 ∧ (lo + hi) / 2 < hi := by omega
      have c1 := fun W (h : Below w.heap.size w W) => HF.out ((lo + hi) / 2) W (by omega) (by omega) h
      by_cases hp : p ((lo + hi) / 2) = true
      · rw [hp] at c1
        have C1 := Lib.hid c1
        clear c1
        go_wp2_with (go_at_call 30; refine (C1.out _ (by repeat (first | exact Below.refl _ _ | assumption | refine Below.setCell ?_ (by first | (simp; done) | (simp; omega) | omega) _ | refine Below.drew ?_ | refine below_drewN ?_ _ | refine Below.alloc ?_ (by first | (simp; done) | (simp; omega) | omega) _ | refine below_alloc ?_ _ | refine below_step ?_ (by assumption)))).mono ?_; rintro e w3 ⟨rfl, hb⟩)
        go_roundw
        case rel => exact ⟨lo, (lo + hi) / 2, rfl, rfl, by omega, ⟨hinv.out.1, fun _ => hp⟩, (by repeat (first | exact Below.refl _ _ | assumption | refine Below.setCell ?_ (by first | (simp; done) | (simp; omega) | omega) _ | refine Below.drew ?_ | refine below_drewN ?_ _ | refine Below.alloc ?_ (by first | (simp; done) | (simp; omega) | omega) _ | refine below_alloc ?_ _ | refine below_step ?_ (by assumption)))⟩
        case measure => simp [intOf]; omega
      · have hp' : p ((lo + hi) / 2) = false := by simpa using hp
        rw [hp'] at c1
        have C1 := Lib.hid c1
        clear c1
        go_wp2_with (go_at_call 30; refine (C1.out _ (by repeat (first | exact Below.refl _ _ | assumption | refine Below.setCell ?_ (by first | (simp; done) | (simp; omega) | omega) _ | refine Below.drew ?_ | refine below_drewN ?_ _ | refine Below.alloc ?_ (by first | (simp; done) | (simp; omega) | omega) _ | refine below_alloc ?_ _ | refine below_step ?_ (by assumption)))).mono ?_; rintro e w3 ⟨rfl, hb⟩)
        go_roundw
        case rel => exact ⟨(lo + hi) / 2, hi, rfl, rfl, by omega, ⟨fun _ => hp', hinv.out.2⟩, (by repeat (first | exact Below.refl _ _ | assumption | refine Below.setCell ?_ (by first | (simp; done) | (simp; omega) | omega) _ | refine Below.drew ?_ | refine below_drewN ?_ _ | refine Below.alloc ?_ (by first | (simp; done) | (simp; omega) | omega) _ | refine below_alloc ?_ _ | refine below_step ?_ (by assumption)))⟩
        case measure => simp [intOf]; omega
    · have hl : Hid (leastC p n = hi) := (LSpec.of HM.out a1 (by omega) a3 hinv.out.1 hinv.out.2).eq
      go_wp2
      go_ret
      exact ⟨ret_int hl.out.symm, (by repeat (first | exact Below.refl _ _ | assumption | refine Below.setCell ?_ (by first | (simp; done) | (simp; omega) | omega) _ | refine Below.drew ?_ | refine below_drewN ?_ _ | refine Below.alloc ?_ (by first | (simp; done) | (simp; omega) | omega) _ | refine below_alloc ?_ _ | refine below_step ?_ (by assumption)))⟩
end Go.Proofs.Ytkphkknlenjjhaa
