/- Tapes: the reference's validTape, Valid. -/
import Derived.Test.YthpbkbbmedpecaaDoorTape2
import Derived.Test.YthpbkbbmedpecaaDoorTail
set_option linter.unusedSimpArgs false
set_option linter.unusedVariables false
namespace Go.Proofs.YthpbkbbmedpecaaDoor
open Go.RowKit
attribute [local go_sem] Later.cell Same.cell

set_option maxHeartbeats 1000000 in
theorem rsound_any (n a b o : Int) (w : World) :
    Calls Tryd.prog 41 #[.int .i64 n, .agg #[.int .i64 a, .int .i64 b, .int .i64 o]] w fun e w' => e = .returned (.bool (vT n (a, b, o))) ∧ Below w.heap.size w w' := by
  have hv : vT n (a, b, o) = (decide (0 ≤ a) && (decide (a < b) && (decide (b < n) && withinB o 1 60))) := rfl
  generalize vT n (a, b, o) = V at *
  by_cases h1 : 0 ≤ a
  · by_cases h2 : a < b
    · by_cases h3 : b < n
      · have hf : Hid (V = withinB o 1 60) := Lib.hid (by rw [hv, decide_eq_true h1, decide_eq_true h2, decide_eq_true h3]; rfl)
        clear hv
        go_enter Tryd.func41, Tryd.ntmps41
        go_wp2_with (go_at_call 40; refine (uwithin_any _ _ _ _).mono ?_; rintro e w' ⟨rfl, rfl⟩)
        go_ret
        exact ⟨ret_bool hf.out.symm, (by repeat (first | exact Below.refl _ _ | assumption | refine Below.setCell ?_ (by first | (simp; done) | (simp; omega) | omega) _ | refine Below.drew ?_ | refine below_drewN ?_ _ | refine Below.alloc ?_ (by first | (simp; done) | (simp; omega) | omega) _ | refine below_alloc ?_ _ | refine below_step ?_ (by assumption)))⟩
      · have hf : Hid (V = false) := Lib.hid (by rw [hv, decide_eq_false h3]; simp)
        have h3' : decide (b < n) = false := decide_eq_false h3
        clear hv
        go_enter Tryd.func41, Tryd.ntmps41
        go_wp2
        go_ret
        exact ⟨ret_bool hf.out.symm, (by repeat (first | exact Below.refl _ _ | assumption | refine Below.setCell ?_ (by first | (simp; done) | (simp; omega) | omega) _ | refine Below.drew ?_ | refine below_drewN ?_ _ | refine Below.alloc ?_ (by first | (simp; done) | (simp; omega) | omega) _ | refine below_alloc ?_ _ | refine below_step ?_ (by assumption)))⟩
    · have hf : Hid (V = false) := Lib.hid (by rw [hv, decide_eq_false h2]; simp)
      have h2' : decide (a < b) = false := decide_eq_false h2
      clear hv
      go_enter Tryd.func41, Tryd.ntmps41
      go_wp2
      go_ret
      exact ⟨ret_bool hf.out.symm, (by repeat (first | exact Below.refl _ _ | assumption | refine Below.setCell ?_ (by first | (simp; done) | (simp; omega) | omega) _ | refine Below.drew ?_ | refine below_drewN ?_ _ | refine Below.alloc ?_ (by first | (simp; done) | (simp; omega) | omega) _ | refine below_alloc ?_ _ | refine below_step ?_ (by assumption)))⟩
  · have hf : Hid (V = false) := Lib.hid (by rw [hv, decide_eq_false h1]; rfl)
    have h1' : decide (0 ≤ a) = false := decide_eq_false h1
    clear hv
    go_enter Tryd.func41, Tryd.ntmps41
    go_wp2
    go_ret
    exact ⟨ret_bool hf.out.symm, (by repeat (first | exact Below.refl _ _ | assumption | refine Below.setCell ?_ (by first | (simp; done) | (simp; omega) | omega) _ | refine Below.drew ?_ | refine below_drewN ?_ _ | refine Below.alloc ?_ (by first | (simp; done) | (simp; omega) | omega) _ | refine below_alloc ?_ _ | refine below_step ?_ (by assumption)))⟩
theorem all_no {l : List Tp} {p : Tp → Bool} {k : Nat} (hk : k < l.length) (h : p (tpA l k) = false) : l.all p = false := by
  refine List.all_eq_false.2 ⟨l[k], List.getElem_mem hk, ?_⟩
  unfold tpA at h; rw [List.getElem?_eq_getElem hk] at h
  simpa using h
set_option maxRecDepth 20000 in
set_option maxHeartbeats 2000000 in
theorem rValid_any (n : Int) (A : Option Addr) (len cap : Nat) (l : List Tp) (w : World) (hm : len ≤ 9223372036854775807) (hx : Rows 3 int3 (0,0,0) w w.heap.size A len l) :
    Calls Tryd.prog 22 #[.int .i64 n, .slice A len cap] w fun e w' => e = .returned (.bool (vNet n l)) ∧ Below w.heap.size w w' := by
  have hv : vNet n l = (withinB n 1 6 && (decide (l.length ≤ 10) && l.all (vT n))) := rfl
  rw [hx.1] at hv
  have c1 := fun W => uwithin_any n 1 6 W
  cases h1 : withinB n 1 6
  · rw [h1] at c1 hv
    have hf : Hid (vNet n l = false) := Lib.hid hv
    have C1 := Lib.hid c1
    clear c1 hv hx h1
    go_enter Tryd.func22, Tryd.ntmps22
    go_wp2_with (go_at_call 40; refine (C1.out _).mono ?_; rintro e w' ⟨rfl, rfl⟩)
    go_ret
    exact ⟨ret_bool hf.out.symm, (by repeat (first | exact Below.refl _ _ | assumption | refine Below.setCell ?_ (by first | (simp; done) | (simp; omega) | omega) _ | refine Below.drew ?_ | refine below_drewN ?_ _ | refine Below.alloc ?_ (by first | (simp; done) | (simp; omega) | omega) _ | refine below_alloc ?_ _ | refine below_step ?_ (by assumption)))⟩
  · rw [h1] at c1 hv
    rw [Bool.true_and] at hv
    by_cases h2 : len ≤ 10
    · rw [decide_eq_true h2, Bool.true_and] at hv
      have h2' : decide ((10 : Int) < len) = false := decide_eq_false (by omega)
      have HV := Lib.hid hv
      have HX := Lib.hid hx
      have C1 := Lib.hid c1
      clear c1 hx h1 hv
      go_enter Tryd.func22, Tryd.ntmps22
      go_wp2_with (go_at_call 40; refine (C1.out _).mono ?_; rintro e w' ⟨rfl, rfl⟩)
      go_loopw [5] (fun i wr => ∃ k : Nat, k ≤ len ∧ i = .int .i64 k ∧ Hid ((l.take k).all (vT n) = true) ∧ Below w.heap.size w wr) (fun i _ => len - (intOf i).toNat)
      case atStart => exact ⟨0, Nat.zero_le _, rfl, Lib.hid rfl, Below.refl _ _⟩
      case round =>
        obtain ⟨k, hk, rfl, hT, hb⟩ := hrel
        by_cases hlt : k < len
        · obtain ⟨b, off, rfl, hb0, hc1, hc2, hc3⟩ := rows_tp (HX.out.below hb) k hlt
          have hkl : k < l.length := by rw [HX.out.1]; exact hlt
          have HY := Lib.hid (fun h2 => all_take_snoc (l := l) (k := k) hkl hT.out h2)
          have HN := Lib.hid (fun h2 => all_no (l := l) (k := k) (p := vT n) hkl h2)
          have c2 := fun W => rsound_any n (tpA l k).1 (tpA l k).2.1 (tpA l k).2.2 W
          change ∀ W, Calls _ _ _ _ (fun e w' => e = .returned (.bool (vT n (tpA l k))) ∧ _) at c2
          have hk1 : (k : Int) < len := by omega
          cases hv : vT n (tpA l k)
          · have h4 : Hid (vNet n l = false) := Lib.hid (by rw [HV.out]; exact HN.out hv)
            rw [hv] at c2
            have C2 := Lib.hid c2
            generalize tpA l k = T at *
            clear c2 hv
            go_wp2_with fail
            refine (C2.out _).mono ?_
            rintro e w1 ⟨rfl, hb1⟩
            go_wp2
            go_ret
            exact ⟨ret_bool h4.out.symm, below_step hb hb1⟩
          · have h4 := Lib.hid (HY.out hv)
            rw [hv] at c2
            have C2 := Lib.hid c2
            generalize tpA l k = T at *
            clear c2 hv
            go_wp2_with fail
            refine (C2.out _).mono ?_
            rintro e w1 ⟨rfl, hb1⟩
            go_wp2
            go_roundw
            case rel => exact ⟨k + 1, by omega, by go_num, h4, below_step hb hb1⟩
            case measure => simp [intOf]; omega
        · have hfin : Hid (vNet n l = true) := Lib.hid (by rw [HV.out]; have := hT.out; rwa [List.take_of_length_le (by rw [HX.out.1]; omega)] at this)
          go_wp2
          go_ret
          exact ⟨ret_bool hfin.out.symm, hb⟩
    · rw [decide_eq_false h2, Bool.false_and] at hv
      have hf : Hid (vNet n l = false) := Lib.hid hv
      have C1 := Lib.hid c1
      have h2' : decide ((10 : Int) < len) = true := decide_eq_true (by omega)
      clear c1 hv hx h1
      go_enter Tryd.func22, Tryd.ntmps22
      go_wp2_with (go_at_call 40; refine (C1.out _).mono ?_; rintro e w' ⟨rfl, rfl⟩)
      go_ret
      exact ⟨ret_bool hf.out.symm, (by repeat (first | exact Below.refl _ _ | assumption | refine Below.setCell ?_ (by first | (simp; done) | (simp; omega) | omega) _ | refine Below.drew ?_ | refine below_drewN ?_ _ | refine Below.alloc ?_ (by first | (simp; done) | (simp; omega) | omega) _ | refine below_alloc ?_ _ | refine below_step ?_ (by assumption)))⟩
end Go.Proofs.YthpbkbbmedpecaaDoor
