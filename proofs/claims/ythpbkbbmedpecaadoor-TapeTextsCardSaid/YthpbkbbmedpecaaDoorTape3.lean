/- Tapes: joined. -/
import Derived.Test.YthpbkbbmedpecaaDoorTape2
import Derived.Test.YthpbkbbmedpecaaDoorTail
set_option linter.unusedSimpArgs false
set_option linter.unusedVariables false
namespace Go.Proofs.YthpbkbbmedpecaaDoor
open Go.RowKit
attribute [local go_sem] Later.cell Same.cell

def Z6 : List Int := [0, 0, 0, 0, 0, 0]
/-- The result's block and that of the labels. -/
def JW (w : World) (r : List Int) (W : World) : Prop := Below w.heap.size w W ∧ Arr W w.heap.size Z6 ∧ Arr W (w.heap.size + 1) r
def JO (w : World) (l : List Tp) (s n : Nat) (i x : Value) (W : World) : Prop := ∃ k : Nat, k ≤ n ∧ i = .int .i64 k ∧ x = .bool (jk l s k).2 ∧ JW w (jk l s k).1 W
def JI (w : World) (r : List Int) (i : Value) (W : World) (r' : Nat → List Int) : Prop := ∃ k : Nat, k ≤ 6 ∧ i = .int .i64 k ∧ JW w (r' k) W
theorem JW.up {w : World} {r : List Int} {W : World} (h : JW w r W) {k : Nat} (hk : k < 6) (v : Int) : JW w (r.set k v) (W.setCell ⟨w.heap.size + 1, k, none⟩ (.int .i64 v)) :=
  ⟨h.1.setCell (by show w.heap.size ≤ _; exact Nat.le_succ _) _, h.2.1.other (by show w.heap.size + 1 ≠ _; omega) _, h.2.2.set hk v⟩

set_option maxRecDepth 20000 in
set_option maxHeartbeats 4000000 in
theorem joined_any (A : Option Addr) (len cap : Nat) (l : List Tp) (s : Nat) (w : World) (hm : len ≤ 10) (hs : s < 1024) (hx : Rows 3 int3 (0,0,0) w w.heap.size A len l) (hl : okL l) :
    Calls Tryd.prog 42 #[.slice A len cap, .int .i64 s] w fun e w' => e = .returned (.tuple #[arrV (jk l s len).1, .bool (jk l s len).2]) ∧ Below w.heap.size w w' := by
  have HX := Lib.hid hx
  clear hx
  go_enter Tryd.func42, Tryd.ntmps42
  go_wp2
  go_loopw [14] (fun i W => JI w [] i W upK) (fun i _ => 6 - (intOf i).toNat)
  case atStart => exact ⟨0, Nat.zero_le _, rfl, by
    refine ⟨(by repeat (first | exact Below.refl _ _ | assumption | refine Below.setCell ?_ (by first | (simp; done) | (simp; omega) | omega) _ | refine Below.drew ?_ | refine below_drewN ?_ _ | refine Below.alloc ?_ (by first | (simp; done) | (simp; omega) | omega) _ | refine below_alloc ?_ _ | refine below_step ?_ (by assumption))), ?_, ?_⟩
    · have h := (Arr.new w Z6 rfl 80).alloc (.cells (Z6.map (Value.int .i64)).toArray 80)
      exact h
    · have h := Arr.new (w.alloc (.cells (Z6.map (Value.int .i64)).toArray 80)) Z6 rfl 80
      rw [World.size_alloc] at h
      exact h⟩
  case round =>
    obtain ⟨k, hk, rfl, hj⟩ := hrel
    by_cases hlt : k < 6
    · have hc := hj.2.2.at_ k hlt
      have hk1 : (k : Int) < 6 := by omega
      have HJ := Lib.hid (hj.up hlt k)
      have hup := upK_succ k hlt
      obtain ⟨hc1, hc2⟩ := hc
      generalize num (upK k) k = X at *
      have HU := Lib.hid hup
      clear hup hj
      go_wp2
      go_roundw
      case rel => exact ⟨k + 1, by omega, by go_num, by rw [HU.out]; exact HJ.out⟩
      case measure => simp [intOf]; omega
    · have hk6 : k = 6 := by omega
      subst hk6
      have HJ : Hid (JW w R0 wr) := Lib.hid hj
      clear hj
      go_wp2
      go_loopw [23, 8] (fun i x W => JO w l s len i x W) (fun i _ _ => len - (intOf i).toNat)
      case atStart => exact ⟨0, Nat.zero_le _, rfl, rfl, HJ.out⟩
      case round =>
        clear HJ
        obtain ⟨k, hk, rfl, rfl, hj⟩ := hrel
        by_cases hlt : k < len
        · obtain ⟨b, off, rfl, hb0, hc1, hc2, hc3⟩ := rows_tp (HX.out.below hj.1) k hlt
          have hkl : k < l.length := by rw [HX.out.1]; exact hlt
          have hT := hl (tpA l k) (by unfold tpA; rw [List.getElem?_eq_getElem hkl]; exact List.getElem_mem hkl)
          have hsu := jk_succ (s := s) hkl
          have hand := and_one (s / 2 ^ k) (Nat.lt_of_le_of_lt (Nat.div_le_self _ _) (by omega))
          rw [Int.natCast_ediv, Int.natCast_pow] at hand
          have hand2 : bits BinOp.and IntKind.i64 ((s : Int) / 2 ^ k) 1 = ((s / 2 ^ k % 2 : Nat) : Int) := hand
          clear hand
          generalize jk l s k = q at *
          generalize tpA l k = T at *
          have hk1 : (k : Int) < len := by omega
          have hsz := hj.1.size
          have hmod : s / 2 ^ k % 2 < 2 := Nat.mod_lt _ (by decide)
          cases hbt : bt s k
          · have hq : (bits BinOp.and IntKind.i64 ((s : Int) / 2 ^ k) 1 == 0) = true := by
              rw [hand2]; unfold bt at hbt; generalize s / 2 ^ k % 2 = q2 at hbt hmod ⊢; simp at hbt ⊢; omega
            rw [hbt] at hsu
            change jk l s (k + 1) = q at hsu
            have HU := Lib.hid hsu
            have HJ := Lib.hid hj
            clear hmod hsu hbt hand2 hT hj
            go_wp2
            go_roundw
            case rel => exact ⟨k + 1, by omega, by go_num, by rw [HU.out], by rw [HU.out]; exact ⟨HJ.out.1.alloc hsz _, HJ.out.2.1.alloc _, HJ.out.2.2.alloc _⟩⟩
            case measure => simp [intOf]; omega
          · have hq : (bits BinOp.and IntKind.i64 ((s : Int) / 2 ^ k) 1 == 0) = false := by
              rw [hand2]; unfold bt at hbt; generalize s / 2 ^ k % 2 = q2 at hbt hmod ⊢; simp at hbt ⊢; omega
            rw [hbt] at hsu
            change jk l s (k + 1) = (mgL q.1 T, q.2 && !(at6 q.1 T.1 == at6 q.1 T.2.1)) at hsu
            obtain ⟨⟨hA0, hA1⟩, ⟨hB0, hB1⟩, hAB, -, -⟩ := hT
            have ha := hj.2.2.at_ T.1.toNat (by omega)
            have hb := hj.2.2.at_ T.2.1.toNat (by omega)
            rw [num_at6'] at ha hb
            obtain ⟨qr, qt⟩ := q
            dsimp only at *
            have hG1 : w.heap.size + 1 < wr.heap.size := hj.2.2.1
            have hG2 : w.heap.size < wr.heap.size := by omega
            have hG3 : ¬ wr.heap.size = w.heap.size + 1 := by omega
            have hG4 : ¬ w.heap.size + 1 = wr.heap.size := by omega
            have ha1 := ha.1
            have hb1 := hb.1
            have HU := Lib.hid hsu
            have HJ := Lib.hid hj
            clear hmod hsu hbt hand2 hj ha hb
            go_wp2
            (refine wp_region_later (by kernel_rfl) (by kernel_rfl) ?_; (repeat (go_big_quiet_step ((fail)))); refine wpQuiet_nil ?_)
            intro w4 hb
            have hsz4 := hb.size
            have hJ4 : JW w qr w4 := ⟨HJ.out.1.trans (((Below.refl _ _).alloc (Nat.le_refl _) _).trans (hb.mono (by simp)) |>.mono hsz), ((HJ.out.2.1.alloc _).below hb (by simp; omega)), ((HJ.out.2.2.alloc _).below hb (by have := HJ.out.2.2.1; simp; omega))⟩
            have HJ4 := Lib.hid hJ4
            have hml : mgL qr T = mgK (at6 qr T.1) (at6 qr T.2.1) qr 6 := (mgK_all _ _ hJ4.2.2.2.1).symm
            have hqr := hJ4.2.2.2.1
            rw [hml] at HU
            clear hb HJ hJ4 hml ha1 hb1
            generalize at6 qr T.1 = p at *
            generalize at6 qr T.2.1 = q at *
            have HS := Lib.hid (fun k (h : k < 6) => mgK_succ (p := p) (q := q) hqr h)
            have HNM := Lib.hid (fun k (h : k < 6) => mgK_num (p := p) (q := q) hqr h)
            have HML := Lib.hid (fun k => mgK_len (p := p) (q := q) (k := k) hqr)
            clear hqr
            by_cases hpq : p = q
            · have hpq' : (p == q) = true := by simpa using hpq
              have HU2 : Hid (jk l s (k + 1) = (mgK p q qr 6, false)) := Lib.hid (by rw [HU.out, hpq']; simp)
              clear hpq HU
              go_wp2
              go_loopw [44] (fun i W => JI w qr i W (mgK p q qr)) (fun i _ => 6 - (intOf i).toNat)
              case atStart => exact ⟨0, Nat.zero_le _, rfl, by rw [mgK_zero]; exact HJ4.out⟩
              case round =>
                clear HJ4 hsz4
                obtain ⟨j, hj, rfl, hjw⟩ := hrel
                by_cases hj6 : j < 6
                · have hc := hjw.2.2.at_ j hj6
                  rw [HNM.out j hj6] at hc
                  have hsu := HS.out j hj6
                  have hj1 : (j : Int) < 6 := by omega
                  obtain ⟨hc1, hc2⟩ := hc
                  have HUP := Lib.hid (fun v => hjw.up hj6 v)
                  have hnn := HNM.out j hj6
                  have hlen := HML.out j
                  have HJW := Lib.hid hjw
                  clear hjw
                  generalize num qr j = X at *
                  by_cases hX : X = max p q
                  · have hX' : (X == max p q) = true := by simpa using hX
                    have HSU : Hid (mgK p q qr (j + 1) = (mgK p q qr j).set j (min p q)) := Lib.hid (by rw [hsu]; congr 1; unfold mg; rw [if_pos hX])
                    clear hsu hX hnn
                    go_wp2
                    go_roundw
                    case rel => exact ⟨j + 1, by omega, by go_num, by rw [HSU.out]; exact HUP.out (min p q)⟩
                    case measure => simp [intOf]; omega
                  · have hX' : (X == max p q) = false := by simpa using hX
                    have HSU : Hid (mgK p q qr (j + 1) = mgK p q qr j) := Lib.hid (by
                      rw [hsu, show mg p q X = X by unfold mg; rw [if_neg hX]]
                      exact set_same X hnn (by rw [hlen]; exact hj6))
                    clear hsu hX hnn
                    go_wp2
                    go_roundw
                    case rel => exact ⟨j + 1, by omega, by go_num, by rw [HSU.out]; exact HJW.out⟩
                    case measure => simp [intOf]; omega
                · have hj66 : j = 6 := by omega
                  subst hj66
                  have HJW := Lib.hid hjw
                  clear hjw
                  go_wp2
                  go_roundw
                  case rel => exact ⟨k + 1, by omega, by go_num, by rw [HU2.out], by rw [HU2.out]; exact HJW.out⟩
                  case measure => simp [intOf]; omega
            · have hpq' : (p == q) = false := by simpa using hpq
              have HU2 : Hid (jk l s (k + 1) = (mgK p q qr 6, qt)) := Lib.hid (by rw [HU.out, hpq']; simp)
              clear hpq HU
              go_wp2
              go_loopw [44] (fun i W => JI w qr i W (mgK p q qr)) (fun i _ => 6 - (intOf i).toNat)
              case atStart => exact ⟨0, Nat.zero_le _, rfl, by rw [mgK_zero]; exact HJ4.out⟩
              case round =>
                clear HJ4 hsz4
                obtain ⟨j, hj, rfl, hjw⟩ := hrel
                by_cases hj6 : j < 6
                · have hc := hjw.2.2.at_ j hj6
                  rw [HNM.out j hj6] at hc
                  have hsu := HS.out j hj6
                  have hj1 : (j : Int) < 6 := by omega
                  obtain ⟨hc1, hc2⟩ := hc
                  have HUP := Lib.hid (fun v => hjw.up hj6 v)
                  have hnn := HNM.out j hj6
                  have hlen := HML.out j
                  have HJW := Lib.hid hjw
                  clear hjw
                  generalize num qr j = X at *
                  by_cases hX : X = max p q
                  · have hX' : (X == max p q) = true := by simpa using hX
                    have HSU : Hid (mgK p q qr (j + 1) = (mgK p q qr j).set j (min p q)) := Lib.hid (by rw [hsu]; congr 1; unfold mg; rw [if_pos hX])
                    clear hsu hX hnn
                    go_wp2
                    go_roundw
                    case rel => exact ⟨j + 1, by omega, by go_num, by rw [HSU.out]; exact HUP.out (min p q)⟩
                    case measure => simp [intOf]; omega
                  · have hX' : (X == max p q) = false := by simpa using hX
                    have HSU : Hid (mgK p q qr (j + 1) = mgK p q qr j) := Lib.hid (by
                      rw [hsu, show mg p q X = X by unfold mg; rw [if_neg hX]]
                      exact set_same X hnn (by rw [hlen]; exact hj6))
                    clear hsu hX hnn
                    go_wp2
                    go_roundw
                    case rel => exact ⟨j + 1, by omega, by go_num, by rw [HSU.out]; exact HJW.out⟩
                    case measure => simp [intOf]; omega
                · have hj66 : j = 6 := by omega
                  subst hj66
                  have HJW := Lib.hid hjw
                  clear hjw
                  go_wp2
                  go_roundw
                  case rel => exact ⟨k + 1, by omega, by go_num, by rw [HU2.out], by rw [HU2.out]; exact HJW.out⟩
                  case measure => simp [intOf]; omega
        · have hkn : k = len := by omega
          subst hkn
          have h0 := hj.2.2.at_ 0 (by omega)
          have h1 := hj.2.2.at_ 1 (by omega)
          have h2 := hj.2.2.at_ 2 (by omega)
          have h3 := hj.2.2.at_ 3 (by omega)
          have h4 := hj.2.2.at_ 4 (by omega)
          have h5 := hj.2.2.at_ 5 (by omega)
          have g0 := hj.2.1.at_ 0 (by omega)
          have g1 := hj.2.1.at_ 1 (by omega)
          have g2 := hj.2.1.at_ 2 (by omega)
          have g3 := hj.2.1.at_ 3 (by omega)
          have g4 := hj.2.1.at_ 4 (by omega)
          have g5 := hj.2.1.at_ 5 (by omega)
          have hB := hj.1
          have hG1 : w.heap.size + 1 < wr.heap.size := hj.2.2.1
          generalize hq : jk l s k = q at *
          obtain ⟨qr, qt⟩ := q
          dsimp only at *
          generalize e0 : num qr 0 = x0 at *
          generalize e1 : num qr 1 = x1 at *
          generalize e2 : num qr 2 = x2 at *
          generalize e3 : num qr 3 = x3 at *
          generalize e4 : num qr 4 = x4 at *
          generalize e5 : num qr 5 = x5 at *
          have HQ : Hid (Value.tuple #[.agg #[.int .i64 x0, .int .i64 x1, .int .i64 x2, .int .i64 x3, .int .i64 x4, .int .i64 x5], .bool qt] = Value.tuple #[arrV (jk l s k).1, .bool (jk l s k).2]) := Lib.hid (by rw [hq]; show _ = Value.tuple #[arrV qr, .bool qt]; unfold arrV; rw [e0, e1, e2, e3, e4, e5])
          clear hj hq e0 e1 e2 e3 e4 e5
          go_wp2
          refine bodyPost_ret (v := .tuple #[.agg #[.int .i64 x0, .int .i64 x1, .int .i64 x2, .int .i64 x3, .int .i64 x4, .int .i64 x5], .bool qt]) (by simp [results, Tryd.results42, go_sem, g0, g1, g2, g3, g4, g5]) rfl ⟨by rw [HQ.out], (by repeat (first | exact Below.refl _ _ | assumption | refine Below.setCell ?_ (by first | (simp; done) | (simp; omega) | omega) _ | refine Below.drew ?_ | refine below_drewN ?_ _ | refine Below.alloc ?_ (by first | (simp; done) | (simp; omega) | omega) _ | refine below_alloc ?_ _ | refine below_step ?_ (by assumption)))⟩
end Go.Proofs.YthpbkbbmedpecaaDoor
