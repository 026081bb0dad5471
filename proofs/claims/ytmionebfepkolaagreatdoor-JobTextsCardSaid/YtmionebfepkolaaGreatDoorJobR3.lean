/- Plans: the reference's order. -/
import Derived.Test.YtmionebfepkolaaGreatDoorJobR2
import Derived.Test.YtmionebfepkolaaGreatDoorYJc
set_option linter.unusedSimpArgs false
set_option linter.unusedVariables false
namespace Go.Proofs.YtmionebfepkolaaGreatDoor
open Go.RowKit
attribute [local go_sem] Later.cell Same.cell

def OrR (l : List Tk) (w : World) (v i : Value) (W : World) : Prop := ∃ k : Nat, k ≤ l.length ∧ i = .int .i64 k ∧ W.ownsRow w.heap.size 3 1 v (ordK l k).length (icells (iN (ordK l k))) ∧ Below w.heap.size w W
theorem OrR.mk {l : List Tk} {w : World} {v i : Value} {W : World} (k : Nat) (h1 : k ≤ l.length) (h2 : i = .int .i64 k) (h3 : W.ownsRow w.heap.size 3 1 v (ordK l k).length (icells (iN (ordK l k)))) (h4 : Below w.heap.size w W) : OrR l w v i W := ⟨k, h1, h2, h3, h4⟩
def OrI (l : List Tk) (k : Nat) (W0 : World) (i : Value) (W : World) : Prop := ∃ j : Nat, j ≤ l.length ∧ i = .int .i64 j ∧ Hid (∀ q, q < j → rdy l (ordK l k) q = false) ∧ Below W0.heap.size W0 W
theorem OrI.mk {l : List Tk} {k : Nat} {W0 : World} {i : Value} {W : World} (j : Nat) (h1 : j ≤ l.length) (h2 : i = .int .i64 j) (h3 : Hid (∀ q, q < j → rdy l (ordK l k) q = false)) (h4 : Below W0.heap.size W0 W) : OrI l k W0 i W := ⟨j, h1, h2, h3, h4⟩
set_option maxRecDepth 20000 in
set_option maxHeartbeats 8000000 in
theorem rorder_any (A : Option Addr) (len cap : Nat) (l : List Tk) (w : World) (hm : len ≤ 1000) (hN : okN l) (hf : ∀ i, i < len → (tkA l i).af.length ≤ 1000) (hx : Plan w w.heap.size A len l) :
    Calls Tryz.prog 34 #[.slice A len cap] w fun e w' => (∃ v, e = .returned v ∧ w'.ownsRow w.heap.size 3 1 v (ord l).length (icells (iN (ord l)))) ∧ Below w.heap.size w w' := by
  obtain rfl : l.length = len := hx.1
  have c1 := fun A n cap xs q W (hn : n ≤ 9223372036854775807) (h : Ints W W.heap.size A n xs) => has_any A n cap xs q W hn h
  have c2 := fun i W (h : Below w.heap.size w W) (hi : i < l.length) => afters_any A l.length cap l i W (by omega) hi (by have := hf i hi; omega) (hx.go h)
  have haz : ∀ i, i < l.length → afZ l i = iN (afs l i) := fun i hi => afZ_afs (hN.2 i hi)
  have c3 := fun A n cap xs A' n' cap' ys W (hn : n ≤ 9223372036854775807) (hn' : n' ≤ 9223372036854775807) (h : Ints W W.heap.size A n xs) (h' : Ints W W.heap.size A' n' ys) => all_any A n cap xs A' n' cap' ys W hn hn' h h'
  have hal : ∀ i, i < l.length → (afs l i).length ≤ 1000 := fun i hi => by rw [afs_len]; exact hf i hi
  obtain ⟨j0, hj, hy0, hy1, hy2⟩ := info_parts jinfo_int
  have hI0 := Lib.hid hj
  have hI1 := Lib.hid hy0
  have hI2 := Lib.hid hy1
  have hI3 := Lib.hid hy2
  have C1 := Lib.hid c1
  have C2 := Lib.hid c2
  have C3 := Lib.hid c3
  have HAZ := Lib.hid haz
  have HAL := Lib.hid hal
  have HKL := Lib.hid (ordK_le l)
  have HO0 := Lib.hid (ord_none l)
  have HL0 := Lib.hid hm
  clear c1 c2 c3 hx hN hf haz hal hj hy0 hy1 hy2
  go_enter Tryz.func34, Tryz.ntmps34
  go_wp2
  go_loopw [3, 7] (fun v i wr => OrR l w v i wr) (fun _ i _ => l.length - (intOf i).toNat)
  case atStart => exact OrR.mk 0 (Nat.zero_le _) rfl (World.ownsRow_nil _ _ _ _) (Below.refl _ _)
  case round =>
    obtain ⟨k, hk, rfl, ho, hB⟩ := hrel
    have hKL := HKL.out k
    obtain ⟨A1, cap1, rfl, hq1, hq2, hI, -⟩ := own_ints ho
    have HI := Lib.hid hI
    have HO := Lib.hid ho
    have hbs := hB.size
    clear ho hI
    by_cases hlt : k < l.length
    · have hk1 : (k : Int) < l.length := by omega
      have hk2 : ¬ l.length ≤ k := by omega
      have HB := Lib.hid hB
      generalize hn : (ordK l k).length = n at *
      have HN := Lib.hid hn
      clear hn hB
      go_wp2
      obtain ⟨W0, hW0⟩ : ∃ W0, W0 = wr := ⟨_, rfl⟩
      subst hW0
      go_loopw [3, 4] (fun v i W => v = .slice A1 n cap1 ∧ OrI l k W0 i W) (fun _ i _ => l.length - (intOf i).toNat)
      case atStart => exact ⟨rfl, OrI.mk 0 (Nat.zero_le _) rfl (Lib.hid (fun q hq => absurd hq (by omega))) (Below.refl _ _)⟩
      case round =>
        obtain ⟨rfl, j, hj, rfl, HT, hb⟩ := hrel
        have hBw : Below w.heap.size w wr := HB.out.trans (hb.mono hbs)
        have hsw := hBw.size
        have hs0 := hb.size
        have HOw := Lib.hid (jown_later HO.out hb)
        have HIw := Lib.hid ((HI.out.below hb).more hs0)
        by_cases hlj : j < l.length
        · have hj1 : (j : Int) < l.length := by omega
          have hj2 : ¬ l.length ≤ j := by omega
          have hnl : n ≤ l.length := by rw [← HN.out]; exact HKL.out k
          have hL0 := HL0.out
          have hAL := HAL.out j hlj
          have hcon : (iN (ordK l k)).contains (j : Int) = (ordK l k).contains j := iN_contains _ _
          have hrd : rdy l (ordK l k) j = (!((ordK l k).contains j) && (afs l j).all (ordK l k).contains) := rfl
          have c4 := C1.out A1 n cap1 (iN (ordK l k)) (j : Int) wr (by omega) HIw.out
          rw [hcon] at c4
          cases hcj : (ordK l k).contains j
          · rw [hcj] at c4 hrd
            rw [Bool.not_false, Bool.true_and] at hrd
            have C4 := Lib.hid c4
            have HRD := Lib.hid hrd
            have c5 := C2.out j wr hBw hlj
            rw [HAZ.out j hlj, iN_len] at c5
            have C5 := Lib.hid c5
            clear c4 c5 hrd hcon hcj
            go_wp2_with fail
            refine C4.out.mono ?_
            rintro e w1 ⟨rfl, rfl⟩
            clear C4
            go_wp2_with fail
            refine C5.out.mono ?_
            rintro e w1 ⟨⟨v, rfl, ho2⟩, hb2⟩
            have hB2 : Below w.heap.size w w1 := hBw.trans (hb2.mono hsw)
            have hs2 := hb2.size
            obtain ⟨A2, cap2, rfl, hm1, hm2, hI2, -⟩ := own_ints ho2
            have c6 := C3.out A1 n cap1 (iN (ordK l k)) A2 (afs l j).length cap2 (iN (afs l j)) w1 (by omega) (by omega) ((HIw.out.below hb2).more hs2) hI2
            rw [iN_all] at c6
            have HO1 := Lib.hid (jown_later HOw.out hb2)
            have hb01 : Below W0.heap.size W0 w1 := hb.trans (hb2.mono hs0)
            clear ho2 hI2 hb2 C5 HOw HIw
            cases hal : (afs l j).all (ordK l k).contains
            · rw [hal] at c6
              have C6 := Lib.hid c6
              have HT2 : Hid (∀ q, q < j + 1 → rdy l (ordK l k) q = false) := Lib.hid (fun q hq => by
                by_cases e : q = j
                · subst e; rw [HRD.out]; exact hal
                · exact HT.out q (by omega))
              clear c6 hal
              go_wp2_with fail
              refine C6.out.mono ?_
              rintro e w2 ⟨rfl, rfl⟩
              go_wp2
              go_roundw
              case rel => exact ⟨rfl, OrI.mk (j + 1) (by omega) (by go_num) HT2 hb01⟩
              case measure => simp [intOf]; omega
            · rw [hal] at c6
              have C6 := Lib.hid c6
              have HNX : Hid (nxt l (ordK l k) = some j) := Lib.hid (nxt_is hlj (by rw [HRD.out]; exact hal) HT.out)
              clear c6 hal
              go_wp2_with fail
              refine C6.out.mono ?_
              rintro e w2 ⟨rfl, rfl⟩
              go_wp2_with (at_builtin; go_loud (refine wpList_append_own _ rfl (.tmp 26) (.tmp 28) 37 rfl w.heap.size 3 j0 (.int .i64 0) 1 8 Tryz.underlying37 hI0.out hI1.out hI2.out hI3.out rfl (by decide) _ _ _ rfl (HO1.out.alloc _) ⟨w1.heap.size, 0, none⟩ 1 1 [.int .i64 (j : Int)] rfl rfl (jnews1 _ _ _) (jone1 _) (by unfold maxLen; omega) (by omega) (by simp; omega) ?_))
              intro v8 w8 hown8 hgrow8 _
              have hb9 : Below w.heap.size (w1.alloc (.cells #[.int .i64 (j : Int)] 3)) w8 := grown_below hgrow8 (by simp; omega) (fun q hq => ((HO1.out.alloc (.cells #[.int .i64 (j : Int)] 3)).lt q hq).1)
              have hb10 := (hB2.alloc (by omega) (.cells #[.int .i64 (j : Int)] 3)).trans hb9
              have HR2 : Hid (w8.ownsRow w.heap.size 3 1 v8 (n + 1) (icells (iN (ordK l k ++ [j])))) := Lib.hid (by rw [iN_app, icells_app]; exact hown8)
              clear hown8 hgrow8 hb9 HO1
              go_wp2
              go_roundw
              case rel => exact OrR.mk (k + 1) (by omega) (by go_num) (by rw [ordK_next HNX.out, List.length_append, HN.out]; exact HR2.out) hb10
              case measure => simp [intOf]; omega
          · rw [hcj] at c4 hrd
            rw [Bool.not_true, Bool.false_and] at hrd
            have C4 := Lib.hid c4
            have HT2 : Hid (∀ q, q < j + 1 → rdy l (ordK l k) q = false) := Lib.hid (fun q hq => by
              by_cases e : q = j
              · subst e; exact hrd
              · exact HT.out q (by omega))
            clear c4 hrd hcon hcj
            go_wp2_with fail
            refine C4.out.mono ?_
            rintro e w1 ⟨rfl, rfl⟩
            go_wp2
            go_roundw
            case rel => exact ⟨rfl, OrI.mk (j + 1) (by omega) (by go_num) HT2 hb⟩
            case measure => simp [intOf]; omega
        · have hjl : j = l.length := by omega
          have hj1 : ¬ (j : Int) < l.length := by omega
          have HNX : Hid (nxt l (ordK l k) = none) := Lib.hid (nxt_isNone fun q hq => HT.out q (by omega))
          clear HT
          go_wp2
          go_roundw
          case rel => exact OrR.mk (k + 1) (by omega) (by go_num) (by rw [ordK_stay HNX.out, HN.out]; exact HOw.out) hBw
          case measure => simp [intOf]; omega
    · have hkl : k = l.length := by omega
      have hk1 : ¬ (k : Int) < l.length := by omega
      have HB := Lib.hid hB
      have HR : Hid (wr.ownsRow w.heap.size 3 1 (.slice A1 (ordK l k).length cap1) (ord l).length (icells (iN (ord l)))) := Lib.hid (by rw [hkl]; rw [hkl] at HO; exact HO.out)
      subst hkl
      clear hB HO HI
      go_wp2
      go_ret
      exact ⟨⟨_, rfl, HR.out⟩, HB.out⟩
end Go.Proofs.YtmionebfepkolaaGreatDoor
