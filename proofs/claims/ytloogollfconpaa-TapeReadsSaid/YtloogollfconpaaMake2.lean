/- Tapes: without, Without. -/
import Derived.Test.YtloogollfconpaaMake1
set_option linter.unusedSimpArgs false
set_option linter.unusedVariables false
namespace Go.Proofs.Ytloogollfconpaa
open Go.RowKit
attribute [local go_sem] Later.cell Same.cell

theorem erase_len {l : List Tp} {i : Nat} (hi : i < l.length) : (l.eraseIdx i).length = l.length - 1 := List.length_eraseIdx_of_lt hi
set_option maxHeartbeats 2000000 in
theorem without_any (A : Option Addr) (len cap : Nat) (l : List Tp) (i : Nat) (w : World) (hi : i < len) (hm : len ≤ 10000) (hx : Rows 3 int3 (0,0,0) w w.heap.size A len l) :
    Calls Try.prog 17 #[.slice A len cap, .int .i64 i] w fun e w' => (∃ v, e = .returned v ∧ w'.ownsRow w.heap.size 37 3 v (l.eraseIdx i).length (tcells (l.eraseIdx i))) ∧ Below w.heap.size w w' := by
  have c1 := cloneT_any A len cap l w (by omega) hx
  have c2 := fun g c W h hb => deleteT_any g len c w.heap.size i l W h (by omega) hi hb
  have hL : (l.eraseIdx i).length = len - 1 := by rw [erase_len (by rw [hx.1]; exact hi), hx.1]
  rw [hL]
  have hwi : IntKind.i64.wrap ((i : Int) + 1) = (i : Int) + 1 := IntWalk.i64_in _ (by omega)
  have C1 := Lib.hid c1
  have C2 := Lib.hid c2
  clear c1 c2 hx hL
  go_enter Try.func17, Try.ntmps17
  go_wp2_with fail
  refine C1.out.mono ?_
  rintro e w1 ⟨⟨v, rfl, ho⟩, hb⟩
  obtain ⟨A1, k1, rfl, hm1, hm2, hR, hg⟩ := own_tapes ho
  obtain ⟨g, rfl, hg1, hg2, hfr⟩ := hg (by omega)
  have HO := Lib.hid ho
  clear ho hR hg hfr
  go_wp2_with fail
  refine (C2.out g k1 _ HO.out hb.size).mono ?_
  rintro e w2 ⟨rfl, ho2, hb2⟩
  have HO2 := Lib.hid ho2
  clear ho2
  go_wp2
  go_ret
  exact ⟨⟨_, rfl, HO2.out⟩, hb.trans hb2⟩
def woE (n : Int) (l : List Tp) (i : Int) : Int := if vNet n l then (if withinB i 0 ((l.length : Int) - 1) then 0 else 7) else 1
def woL (n : Int) (l : List Tp) (i : Int) : List Tp := if vNet n l then (if withinB i 0 ((l.length : Int) - 1) then l.eraseIdx i.toNat else []) else []
end Go.Proofs.Ytloogollfconpaa
