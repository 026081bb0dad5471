/- Dogs: ascending, follows, last, Right of both; the sound joints. -/
import Derived.Test.YtjgibipficojaaaDoorDogs
set_option linter.unusedSimpArgs false
set_option linter.unusedVariables false
namespace Go.Proofs.YtjgibipficojaaaDoor
open Go.RowKit
attribute [local go_sem] Later.cell

theorem info_int : (Tryd.prog.info? 3).map (fun i => (i.zero, i.size, i.bytes)) = some (some (.int .i64 0), 1, 8) := by kernel_rfl
theorem news1 (W : World) (x : Value) (t : TypeId) : ∀ j u, ([x] : List Value)[j]? = some u → (W.alloc (.cells #[x] t)).cell? ((⟨W.heap.size, 0, none⟩ : Addr).add j) = some u := by
  intro j u hj
  cases j with
  | zero => simp at hj; subst hj; simp [Addr.add]
  | succ j => simp at hj
theorem one1 (n : Int) : ∀ u ∈ ([.int .i64 n] : List Value), u.oneCell' = true := by intro u hu; simp at hu; subst hu; rfl
theorem own_later {w w' : World} {base : Nat} {e : TypeId} {size : Nat} {v : Value} {n : Nat} {xs : List Value} (h : w.ownsRow base e size v n xs) (hb : Below w.heap.size w w') : w'.ownsRow base e size v n xs := by
  refine h.kept (row := none) ⟨hb.os, hb.tape, hb.output, hb.size, fun k hk _ => hb.block k hk⟩ ?_
  cases v.ownBlock <;> simp
theorem hI_nat (l : List J) (d : Nat) : hI l (d : Int) = hgt l d := by simp [hI]
theorem sI_nat (l : List J) (d : Nat) : sI l (d : Int) = sndB l d := by simp [sI]

set_option maxHeartbeats 1000000 in
theorem valid_any (c : Clb) (A : Option Addr) (len cap : Nat) (l : List J) (w : World) (hm : len ≤ 9223372036854775807) (hx : Rows 2 jointV dJ w w.heap.size A len l) :
    Calls Tryd.prog 19 #[climbV c, .slice A len cap] w fun e w' => e = .returned (.bool (vC c && vJ l)) ∧ Below w.heap.size w w' := by
  have c1 := fun W => VClimb_any c W
  have c2 := fun W (h : Below w.heap.size w W) => VJoints_any A len cap l W hm ((hx.below h).more h.size)
  generalize vJ l = G at *
  cases hV : vC c
  · rw [hV] at c1
    have C1 := Lib.hid c1
    clear c1 c2 hx hV
    go_enter Tryd.func19, Tryd.ntmps19
    go_wp2_with fail
    refine (C1.out _).mono ?_
    rintro e w1 ⟨rfl, hb⟩
    have hB_w1 : Below w.heap.size w w1 := (by repeat (first | exact Below.refl _ _ | assumption | refine Below.setCell ?_ (by first | (simp; done) | (simp; omega) | omega) _ | refine Below.drew ?_ | refine below_drewN ?_ _ | refine Below.alloc ?_ (by first | (simp; done) | (simp; omega) | omega) _ | refine below_alloc ?_ _ | refine below_step ?_ (by assumption))); have hz_w1 := hB_w1.size; clear hb
    go_wp2
    go_ret
    exact ⟨rfl, (by repeat (first | exact Below.refl _ _ | assumption | refine Below.setCell ?_ (by first | (simp; done) | (simp; omega) | omega) _ | refine Below.drew ?_ | refine below_drewN ?_ _ | refine Below.alloc ?_ (by first | (simp; done) | (simp; omega) | omega) _ | refine below_alloc ?_ _ | refine below_step ?_ (by assumption)))⟩
  · rw [hV] at c1
    have C1 := Lib.hid c1
    have C2 := Lib.hid c2
    clear c1 c2 hx hV
    go_enter Tryd.func19, Tryd.ntmps19
    go_wp2_with fail
    refine (C1.out _).mono ?_
    rintro e w1 ⟨rfl, hb⟩
    have hB_w1 : Below w.heap.size w w1 := (by repeat (first | exact Below.refl _ _ | assumption | refine Below.setCell ?_ (by first | (simp; done) | (simp; omega) | omega) _ | refine Below.drew ?_ | refine below_drewN ?_ _ | refine Below.alloc ?_ (by first | (simp; done) | (simp; omega) | omega) _ | refine below_alloc ?_ _ | refine below_step ?_ (by assumption))); have hz_w1 := hB_w1.size; clear hb
    go_wp2_with fail
    refine (C2.out _ (by repeat (first | exact Below.refl _ _ | assumption | refine Below.setCell ?_ (by first | (simp; done) | (simp; omega) | omega) _ | refine Below.drew ?_ | refine below_drewN ?_ _ | refine Below.alloc ?_ (by first | (simp; done) | (simp; omega) | omega) _ | refine below_alloc ?_ _ | refine below_step ?_ (by assumption)))).mono ?_
    rintro e w2 ⟨rfl, hb⟩
    have hB_w2 : Below w.heap.size w w2 := (by repeat (first | exact Below.refl _ _ | assumption | refine Below.setCell ?_ (by first | (simp; done) | (simp; omega) | omega) _ | refine Below.drew ?_ | refine below_drewN ?_ _ | refine Below.alloc ?_ (by first | (simp; done) | (simp; omega) | omega) _ | refine below_alloc ?_ _ | refine below_step ?_ (by assumption))); have hz_w2 := hB_w2.size; clear hb
    go_wp2
    go_ret
    exact ⟨by simp, (by repeat (first | exact Below.refl _ _ | assumption | refine Below.setCell ?_ (by first | (simp; done) | (simp; omega) | omega) _ | refine Below.drew ?_ | refine below_drewN ?_ _ | refine Below.alloc ?_ (by first | (simp; done) | (simp; omega) | omega) _ | refine below_alloc ?_ _ | refine below_step ?_ (by assumption)))⟩
end Go.Proofs.YtjgibipficojaaaDoor
