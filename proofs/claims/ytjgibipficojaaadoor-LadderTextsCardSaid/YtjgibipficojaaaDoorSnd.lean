/- Joints: the sound ones, of both texts; a list turned round. -/
import Derived.Test.YtjgibipficojaaaDoorDogs4
import Derived.Laws.IdiomCopy
import Derived.Lib.SlBuf
set_option linter.unusedSimpArgs false
set_option linter.unusedVariables false
namespace Go.Proofs.YtjgibipficojaaaDoor
open Go.RowKit
attribute [local go_sem] Later.cell

theorem own_mono {w : World} {base base' : Nat} {e : TypeId} {size : Nat} {v : Value} {n : Nat} {xs : List Value} (h : w.ownsRow base e size v n xs) (hb : base' ≤ base) : w.ownsRow base' e size v n xs := by
  obtain ⟨h1, h2⟩ := h
  refine ⟨h1, ?_⟩
  rcases h2 with h2 | ⟨g, cap, cur, a1, a2, a3⟩
  · exact .inl h2
  · exact .inr ⟨g, cap, cur, a1, Nat.le_trans hb a2, a3⟩
set_option maxHeartbeats 2000000 in
theorem sound_any (A : Option Addr) (len cap : Nat) (l : List J) (w : World) (hm : len ≤ 100000) (hx : Rows 2 jointV dJ w w.heap.size A len l) :
    Calls Tryd.prog 28 #[.slice A len cap] w fun e w' => (∃ v, e = .returned v ∧ w'.ownsRow w.heap.size 3 1 v (sndI l len).length (icells (sndI l len))) ∧ Below w.heap.size w w' := by
  obtain ⟨i0, hi, hz0, hz1, hz2⟩ := info_parts info_int
  have HX := Lib.hid hx
  have hI0 := Lib.hid hi
  have hI1 := Lib.hid hz0
  have hI2 := Lib.hid hz1
  have hI3 := Lib.hid hz2
  clear hi hz0 hz1 hz2 hx
  go_enter Tryd.func28, Tryd.ntmps28
  go_wp2
  go_loopw [3, 8] (fun v i wr => ∃ k : Nat, k ≤ len ∧ i = .int .i64 k ∧ wr.ownsRow w.heap.size 3 1 v (sndI l k).length (icells (sndI l k)) ∧ Below w.heap.size w wr) (fun _ i _ => len - (intOf i).toNat)
  case atStart => exact ⟨0, Nat.zero_le _, rfl, (by exact World.ownsRow_nil w _ _ _ : w.ownsRow w.heap.size 3 1 (.slice none 0 0) ([] : List Int).length (icells [])), Below.refl _ _⟩
  case round =>
    obtain ⟨k, hk, rfl, hown, hB⟩ := hrel
    have hsz := hB.size
    have hL := sndI_len l k
    by_cases hlt : k < len
    · obtain ⟨b, off, rfl, hb0, hc1, hc2⟩ := (HX.out.below hB).atJ k hlt
      have hbl : b < wr.heap.size := by omega
      have hy := sndI_yes (l := l) (k := k)
      have hn := sndI_no (l := l) (k := k)
      generalize hgt l k = X at *
      generalize sndB l k = Y at *
      generalize sndI l k = R1 at *
      have HO := Lib.hid hown
      clear hown
      cases Y
      · have hR := Lib.hid (hn rfl)
        clear hy hn
        go_wp2
        go_roundw
        case rel => exact ⟨k + 1, by omega, by go_num, by rw [hR.out]; exact HO.out.alloc _, (by repeat (first | exact Below.refl _ _ | assumption | refine Below.setCell ?_ (by first | (simp; done) | (simp; omega) | omega) _ | refine Below.drew ?_ | refine below_drewN ?_ _ | refine Below.alloc ?_ (by first | (simp; done) | (simp; omega) | omega) _ | refine below_alloc ?_ _ | refine below_step ?_ (by assumption)))⟩
        case measure => simp [intOf]; omega
      · have hR := Lib.hid (hy rfl)
        clear hy hn
        go_wp2_with (at_builtin; go_loud (refine wpList_append_own _ rfl (.tmp 15) (.tmp 17) 33 rfl w.heap.size 3 i0 (.int .i64 0) 1 8 Tryd.underlying33 hI0.out hI1.out hI2.out hI3.out rfl (by decide) _ _ _ rfl ((HO.out.alloc _).alloc _) ⟨wr.heap.size + 1, 0, none⟩ 1 1 [.int .i64 (k : Int)] rfl rfl (by intro j u hj; have h := news1 (wr.alloc (.cells #[.int .i64 X, .bool true] 32)) (.int .i64 (k : Int)) 3 j u hj; simpa using h) (one1 _) (by unfold maxLen; omega) (by omega) (by simp; omega) ?_))
        intro v' w5 hown' hgrow _
        have hb6 : Below w.heap.size w w5 := (below_alloc (below_alloc hB _) _).trans (grown_below hgrow (by simp; omega) (fun q hq => (HO.out.lt q hq).1))
        have HO5 : Hid (w5.ownsRow w.heap.size 3 1 v' (R1 ++ [(k:Int)]).length (icells (R1 ++ [(k:Int)]))) := by
          rw [List.length_append, icells_app]; exact hown'
        clear hown' hgrow
        go_wp2
        go_roundw
        case rel => exact ⟨k + 1, by omega, by go_num, by rw [hR.out]; exact HO5.out, hb6⟩
        case measure => simp [intOf]; omega
    · have hkl : k = len := by omega
      subst hkl
      have HO := Lib.hid hown
      clear hown
      go_wp2
      go_ret
      exact ⟨⟨_, rfl, HO.out⟩, hB⟩
def sndR (l : List J) : List Int := if vJ l then sndI l l.length else []
def sndE (l : List J) : Int := if vJ l then 0 else 1
/-- A row of the call's own, turned round. -/
theorem rev_any (A : Option Addr) (n cap base : Nat) (e : TypeId) (zs : List Int) (w : World) (h : w.ownsRow base e 1 (.slice A n cap) n (icells zs)) (hm : n ≤ 9223372036854775807) :
    Calls Tryd.prog 33 #[.slice A n cap] w fun e' w' => e' = .returned (.tuple #[]) ∧ Ints w' w'.heap.size A n zs.reverse ∧ Below base w w' := by
  obtain ⟨A', cap', hv, h1, h2, h3, h4⟩ := own_ints h
  injection hv with e1 e2 e3
  subst e1 e3
  by_cases h0 : n = 0
  · subst h0
    refine (Tryd.slices_Reverse_int_empty A cap w).mono fun e' w' ⟨he, hw⟩ => ⟨he, ?_, ?_⟩
    · have hz : zs = [] := List.eq_nil_of_length_eq_zero h3.1
      rw [hz]; exact ⟨rfl, fun h => absurd h (by omega)⟩
    · rw [hw]; exact Below.refl _ _
  · obtain ⟨g, rfl, hg1, hg2, hg3⟩ := h4 (by omega)
    obtain ⟨b, off, hb, _, hc⟩ := h3.2 (by omega)
    cases hb
    have hzl := h3.1
    refine (Tryd.slices_Reverse_int_cells g 0 n cap zs w (by omega) hm (fun j hj => by rw [hc j (by omega)]; simp [List.getD]) (fun j hj => by have := hg3 j hj; simpa using this)).mono fun e' w' ⟨he, q, hw⟩ => ⟨he, ?_, ?_⟩
    · have hsz : w'.heap.size = w.heap.size := by
        rw [hw]
        have hfr : ∀ (vs : List Value) (o : Nat) (W : World), (W.setCells g o vs).heap.size = W.heap.size := by
          intro vs
          induction vs with
          | nil => intro o W; rfl
          | cons v vs ih => intro o W; show ((W.setCell _ v).setCells g (o + 1) vs).heap.size = _; rw [ih]; simp
        rw [hfr]
        have hdr : ∀ (n : Nat) (W : World), (W.drewN n).heap.size = W.heap.size := by
          intro n
          induction n with
          | zero => intro W; rfl
          | succ n ih => intro W; rfl
        rw [hdr]
      refine ⟨by rw [List.length_reverse]; exact hzl, fun _ => ⟨g, 0, rfl, by omega, fun k hk => ?_⟩⟩
      have hlen : ((zs.take n).reverse.map (Value.int .i64)).length = n := by simp; omega
      have hin := World.cell?_setCells_in g ((zs.take n).reverse.map (Value.int .i64)) 0 (w.drewN q) (fun j hj => by
        rw [hlen] at hj
        have := hc j hj
        have hd : (w.drewN q).cell? ⟨g, 0 + j, none⟩ = w.cell? ⟨g, 0 + j, none⟩ := by go_simp
        rw [hd, this]; rfl) k (by rw [hlen]; exact hk)
      rw [hw, hin]
      have ht : zs.take n = zs := List.take_of_length_le (by omega)
      simp only [ht, List.getElem_map]
      rw [List.getElem?_eq_getElem (by rw [List.length_reverse]; omega)]; rfl
    · rw [hw]
      exact Lib.below_setCells g hg1 _ _ (below_drewN (Below.refl _ _) _)
end Go.Proofs.YtjgibipficojaaaDoor
