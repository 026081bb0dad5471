/- What is left of a rope: the program's and the reference's. -/
import Derived.Test.YtkphkknlenjjhaaWearM
set_option linter.unusedSimpArgs false
set_option linter.unusedVariables false
namespace Go.Proofs.Ytkphkknlenjjhaa
open Go.RowKit
attribute [local go_sem] Later.cell

set_option maxHeartbeats 1000000 in
theorem until_any (s d l : Int) (A : Option Addr) (len cap : Nat) (us : List (Int × Int)) (day : Int) (w : World) (hm : len ≤ cap ∧ cap ≤ 9223372036854775807) (hx : Pairs w w.heap.size A len us) :
    Calls Try.prog 54 #[.agg #[.int .i64 s, .int .i64 d, .int .i64 l, .slice A len cap], .int .i64 day] w fun e w' => e = .returned (.agg #[.int .i64 s, .int .i64 d, .int .i64 l, .slice A (cutN us day len) (cutN us day len)]) ∧ Below w.heap.size w w' := by
  have HX := Lib.hid hx
  clear hx
  have hC := cutN_le us day len
  generalize hCC : cutN us day len = C at *
  have HC := Lib.hid hCC
  clear hCC
  go_enter Try.func54, Try.ntmps54
  go_wp2
  go_loop [5] (fun i => ∃ k : Nat, k ≤ len ∧ i = .int .i64 k ∧ cutN us day k = C) (fun i => (intOf i).toNat)
  case atStart => exact ⟨len, Nat.le_refl _, rfl, HC.out⟩
  case round =>
    obtain ⟨k, hk, rfl, hk2⟩ := hrel
    have HK := Lib.hid hk2
    clear hk2
    by_cases hk0 : k = 0
    · have hc0 : C = 0 := by rw [← HK.out, hk0]; rfl
      subst hk0
      subst hc0
      cases A
      all_goals
        go_wp2
        refine bodyPost_ret (v := .agg #[.int .i64 s, .int .i64 d, .int .i64 l, .slice _ 0 0]) (by simp [results, Try.results54, go_sem]) rfl ⟨rfl, (by repeat (first | exact Below.refl _ _ | assumption | refine Below.setCell ?_ (by first | (simp; done) | (simp; omega) | omega) _ | refine Below.drew ?_ | refine below_drewN ?_ _ | refine Below.alloc ?_ (by first | (simp; done) | (simp; omega) | omega) _ | refine below_alloc ?_ _ | refine below_step ?_ (by assumption)))⟩
    · obtain ⟨j, rfl⟩ : ∃ j, k = j + 1 := ⟨k - 1, by omega⟩
      obtain ⟨b, off, rfl, hb0, hc1, _⟩ := HX.out.at_ j (by omega)
      have hcut : Hid (cutN us day (j+1) = if day < (us[j]?.getD (0,0)).1 then cutN us day j else j + 1) := rfl
      generalize us[j]?.getD (0,0) = X at *
      obtain ⟨x1, x2⟩ := X
      dsimp only at hc1
      have hj1 : (j : Int) < len := by omega
      have hj2 : (j : Int) + 1 ≤ len := by omega
      have hj3 : ¬ len ≤ j := by omega
      have hj4 : j < len := by omega
      have hwj : IntKind.i64.wrap (j : Int) = j := IntWalk.i64_in _ (by omega)
      by_cases hd : day < x1
      · have h3 : cutN us day j = C := by rw [← HK.out, hcut.out]; dsimp only; rw [if_pos hd]
        have H3 := Lib.hid h3
        clear h3
        go_wp2
        go_round
        case rel => exact ⟨j, by omega, by go_num, H3.out⟩
        case measure => simp [intOf]
      · have h3 : C = j + 1 := by rw [← HK.out, hcut.out]; dsimp only; rw [if_neg hd]
        subst h3
        have hcap1 : ((j : Int) + 1) ≤ cap := by omega
        have hcap2 : ¬ cap < j + 1 := by omega
        go_wp2
        refine bodyPost_ret (v := .agg #[.int .i64 s, .int .i64 d, .int .i64 l, .slice (some ⟨b, off, none⟩) (j+1) (j+1)]) (by simp [results, Try.results54, go_sem]) rfl ⟨rfl, (by repeat (first | exact Below.refl _ _ | assumption | refine Below.setCell ?_ (by first | (simp; done) | (simp; omega) | omega) _ | refine Below.drew ?_ | refine below_drewN ?_ _ | refine Below.alloc ?_ (by first | (simp; done) | (simp; omega) | omega) _ | refine below_alloc ?_ _ | refine below_step ?_ (by assumption)))⟩
end Go.Proofs.Ytkphkknlenjjhaa
