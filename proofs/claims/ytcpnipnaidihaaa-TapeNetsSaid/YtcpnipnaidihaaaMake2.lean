/- Tapes: without, Without. -/
import Derived.Test.YtcpnipnaidihaaaMake1
set_option linter.unusedSimpArgs false
set_option linter.unusedVariables false
namespace Go.Proofs.Ytcpnipnaidihaaa
open Go.RowKit
attribute [local go_sem] Later.cell Same.cell

theorem erase_len {l : List Tp} {i : Nat} (hi : i < l.length) : (l.eraseIdx i).length = l.length - 1 := List.length_eraseIdx_of_lt hi
set_option maxHeartbeats 2000000 in
theorem without_any (A : Option Addr) (len cap : Nat) (l : List Tp) (i : Nat) (w : World) (hi : i < len) (hm : len ≤ 10000) (hx : Rows 3 int3 (0,0,0) w w.heap.size A len l) :
    Calls Try.prog 78 #[.slice A len cap, .int .i64 i] w fun e w' => (∃ v, e = .returned v ∧ w'.ownsRow w.heap.size 59 3 v (l.eraseIdx i).length (tcells (l.eraseIdx i))) ∧ Below w.heap.size w w' := by
  have c1 := cloneT_any A len cap l w (by omega) hx
  have c2 := fun g c W h hb => deleteT_any g len c w.heap.size i l W h (by omega) hi hb
  have hL : (l.eraseIdx i).length = len - 1 := by rw [erase_len (by rw [hx.1]; exact hi), hx.1]
  rw [hL]
  have hwi : IntKind.i64.wrap ((i : Int) + 1) = (i : Int) + 1 := IntWalk.i64_in _ (by omega)
  have C1 := Lib.hid c1
  have C2 := Lib.hid c2
  clear c1 c2 hx hL
  go_enter Try.func78, Try.ntmps78
  go_wp2_with fail
  refine C1.out.mono ?_
  rintro e w1 ⟨⟨v, rfl, ho⟩, hb⟩
  obtain ⟨A1, k1, rfl, hm1, hm2, hR, hg⟩ := own_tapes ho
  obtain ⟨g, rfl, hg1, hg2, hfr⟩ := hg (by omega)
  have HO := Lib.hid ho
  clear ho hR hg hfr
  go_wp2_with fail
  refine (C2.out g k1 _ HO.out hb.size).mono ?_
  rintro e w2 ⟨rfl, ho2, hb2⟩
  have HO2 := Lib.hid ho2
  clear ho2
  go_wp2
  go_ret
  exact ⟨⟨_, rfl, HO2.out⟩, hb.trans hb2⟩
def woE (n : Int) (l : List Tp) (i : Int) : Int := if vNet n l then (if withinB i 0 ((l.length : Int) - 1) then 0 else 7) else 1
def woL (n : Int) (l : List Tp) (i : Int) : List Tp := if vNet n l then (if withinB i 0 ((l.length : Int) - 1) then l.eraseIdx i.toNat else []) else []
set_option maxHeartbeats 2000000 in
theorem Without_any (n : Int) (A : Option Addr) (len cap : Nat) (l : List Tp) (i : Int) (w : World) (hm : len ≤ 9223372036854775807) (hx : Rows 3 int3 (0,0,0) w w.heap.size A len l) :
    Calls Try.prog 40 #[.int .i64 n, .slice A len cap, .int .i64 i] w fun e w' => (∃ v, e = .returned (.tuple #[v, .int .i64 (woE n l i)]) ∧ w'.ownsRow w.heap.size 59 3 v (woL n l i).length (tcells (woL n l i))) ∧ Below w.heap.size w w' := by
  have c1 := fun W (h : Below w.heap.size w W) => Valid_any n A len cap l W hm ((hx.below h).more h.size)
  have hE : woE n l i = if vNet n l then (if withinB i 0 ((l.length : Int) - 1) then 0 else 7) else 1 := rfl
  have hL : woL n l i = if vNet n l then (if withinB i 0 ((l.length : Int) - 1) then l.eraseIdx i.toNat else []) else [] := rfl
  have hn := hx.1
  cases hv : vNet n l
  · rw [hv] at c1 hE hL
    rw [if_neg (by decide)] at hE hL
    rw [hE, hL]
    have C1 := Lib.hid c1
    clear c1 hx hv hE hL hn
    go_enter Try.func40, Try.ntmps40
    go_wp2_with fail
    refine (C1.out _ (by repeat (first | exact Below.refl _ _ | assumption | refine Below.setCell ?_ (by first | (simp; done) | (simp; omega) | omega) _ | refine Below.drew ?_ | refine below_drewN ?_ _ | refine Below.alloc ?_ (by first | (simp; done) | (simp; omega) | omega) _ | refine below_alloc ?_ _ | refine below_step ?_ (by assumption)))).mono ?_
    rintro e w1 ⟨rfl, hb⟩
    have hB_w1 : Below w.heap.size w w1 := (by repeat (first | exact Below.refl _ _ | assumption | refine Below.setCell ?_ (by first | (simp; done) | (simp; omega) | omega) _ | refine Below.drew ?_ | refine below_drewN ?_ _ | refine Below.alloc ?_ (by first | (simp; done) | (simp; omega) | omega) _ | refine below_alloc ?_ _ | refine below_step ?_ (by assumption))); have hz_w1 := hB_w1.size; clear hb
    go_wp2
    go_ret2
    exact ⟨⟨_, rfl, World.ownsRow_nil _ _ _ _⟩, (by repeat (first | exact Below.refl _ _ | assumption | refine Below.setCell ?_ (by first | (simp; done) | (simp; omega) | omega) _ | refine Below.drew ?_ | refine below_drewN ?_ _ | refine Below.alloc ?_ (by first | (simp; done) | (simp; omega) | omega) _ | refine below_alloc ?_ _ | refine below_step ?_ (by assumption)))⟩
  · obtain ⟨hnn, hl, hok⟩ := vNet_spec hv
    rw [hv] at c1 hE hL
    rw [if_pos rfl] at hE hL
    cases hw : withinB i 0 ((l.length : Int) - 1)
    · rw [hw] at hE hL
      rw [if_neg (by decide)] at hE hL
      rw [hE, hL]
      have c2 := fun W => twithin_any i 0 ((len : Int) - 1) W
      rw [← hn, hw] at c2
      rw [hn] at c2 hl
      have C1 := Lib.hid c1
      have C2 := Lib.hid c2
      clear c1 c2 hx hv hE hL hw
      go_enter Try.func40, Try.ntmps40
      go_wp2_with fail
      refine (C1.out _ (by repeat (first | exact Below.refl _ _ | assumption | refine Below.setCell ?_ (by first | (simp; done) | (simp; omega) | omega) _ | refine Below.drew ?_ | refine below_drewN ?_ _ | refine Below.alloc ?_ (by first | (simp; done) | (simp; omega) | omega) _ | refine below_alloc ?_ _ | refine below_step ?_ (by assumption)))).mono ?_
      rintro e w1 ⟨rfl, hb⟩
      have hB_w1 : Below w.heap.size w w1 := (by repeat (first | exact Below.refl _ _ | assumption | refine Below.setCell ?_ (by first | (simp; done) | (simp; omega) | omega) _ | refine Below.drew ?_ | refine below_drewN ?_ _ | refine Below.alloc ?_ (by first | (simp; done) | (simp; omega) | omega) _ | refine below_alloc ?_ _ | refine below_step ?_ (by assumption))); have hz_w1 := hB_w1.size; clear hb
      go_wp2_with (go_at_call 65; refine (C2.out _).mono ?_; rintro e w' ⟨rfl, rfl⟩)
      go_ret2
      exact ⟨⟨_, rfl, World.ownsRow_nil _ _ _ _⟩, (by repeat (first | exact Below.refl _ _ | assumption | refine Below.setCell ?_ (by first | (simp; done) | (simp; omega) | omega) _ | refine Below.drew ?_ | refine below_drewN ?_ _ | refine Below.alloc ?_ (by first | (simp; done) | (simp; omega) | omega) _ | refine below_alloc ?_ _ | refine below_step ?_ (by assumption)))⟩
    · rw [hw] at hE hL
      rw [if_pos rfl] at hE hL
      rw [hE, hL]
      have hwb := withinB_iff.1 hw
      have c2 := fun W => twithin_any i 0 ((len : Int) - 1) W
      rw [← hn, hw] at c2
      rw [hn] at c2 hl hwb
      obtain ⟨k, rfl⟩ : ∃ k : Nat, i = k := ⟨i.toNat, by omega⟩
      have c3 := fun W (h : Below w.heap.size w W) => without_any A len cap l k W (by omega) (by omega) ((hx.below h).more h.size)
      rw [Int.toNat_natCast]
      generalize l.eraseIdx k = R at *
      have C1 := Lib.hid c1
      have C2 := Lib.hid c2
      have C3 := Lib.hid c3
      clear c1 c2 c3 hx hv hE hL hw hwb
      go_enter Try.func40, Try.ntmps40
      go_wp2_with fail
      refine (C1.out _ (by repeat (first | exact Below.refl _ _ | assumption | refine Below.setCell ?_ (by first | (simp; done) | (simp; omega) | omega) _ | refine Below.drew ?_ | refine below_drewN ?_ _ | refine Below.alloc ?_ (by first | (simp; done) | (simp; omega) | omega) _ | refine below_alloc ?_ _ | refine below_step ?_ (by assumption)))).mono ?_
      rintro e w1 ⟨rfl, hb⟩
      have hB_w1 : Below w.heap.size w w1 := (by repeat (first | exact Below.refl _ _ | assumption | refine Below.setCell ?_ (by first | (simp; done) | (simp; omega) | omega) _ | refine Below.drew ?_ | refine below_drewN ?_ _ | refine Below.alloc ?_ (by first | (simp; done) | (simp; omega) | omega) _ | refine below_alloc ?_ _ | refine below_step ?_ (by assumption))); have hz_w1 := hB_w1.size; clear hb
      go_wp2_with (go_at_call 65; refine (C2.out _).mono ?_; rintro e w' ⟨rfl, rfl⟩)
      refine (C3.out _ (by repeat (first | exact Below.refl _ _ | assumption | refine Below.setCell ?_ (by first | (simp; done) | (simp; omega) | omega) _ | refine Below.drew ?_ | refine below_drewN ?_ _ | refine Below.alloc ?_ (by first | (simp; done) | (simp; omega) | omega) _ | refine below_alloc ?_ _ | refine below_step ?_ (by assumption)))).mono ?_
      rintro e w2 ⟨⟨v, rfl, ho⟩, hb⟩
      have HO := Lib.hid (town_mono ho hz_w1)
      clear ho
      have hB_w2 : Below w.heap.size w w2 := (by repeat (first | exact Below.refl _ _ | assumption | refine Below.setCell ?_ (by first | (simp; done) | (simp; omega) | omega) _ | refine Below.drew ?_ | refine below_drewN ?_ _ | refine Below.alloc ?_ (by first | (simp; done) | (simp; omega) | omega) _ | refine below_alloc ?_ _ | refine below_step ?_ (by assumption))); have hz_w2 := hB_w2.size; clear hb
      go_wp2
      go_ret2
      exact ⟨⟨v, rfl, HO.out⟩, (by repeat (first | exact Below.refl _ _ | assumption | refine Below.setCell ?_ (by first | (simp; done) | (simp; omega) | omega) _ | refine Below.drew ?_ | refine below_drewN ?_ _ | refine Below.alloc ?_ (by first | (simp; done) | (simp; omega) | omega) _ | refine below_alloc ?_ _ | refine below_step ?_ (by assumption)))⟩
end Go.Proofs.Ytcpnipnaidihaaa
