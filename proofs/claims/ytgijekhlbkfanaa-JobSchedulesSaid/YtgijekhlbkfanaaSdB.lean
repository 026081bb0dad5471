/- Joined by merge.py from: JobR3 JobR4 JobB1 JobB2 SchO JobR5 JobR6 JobB6. -/
import Derived.Test.YtgijekhlbkfanaaJobR2
import Derived.Test.YtgijekhlbkfanaaTail
import Derived.Test.YtgijekhlbkfanaaJobK
import Derived.Test.YtgijekhlbkfanaaSdA
import Derived.Test.YtgijekhlbkfanaaJobB
import Derived.Test.YtgijekhlbkfanaaJobQ5
set_option linter.unusedSimpArgs false
set_option linter.unusedVariables false
namespace Go.Proofs.Ytgijekhlbkfanaa
open Go.RowKit
attribute [local go_sem] Later.cell Same.cell

def OrR (l : List Tk) (w : World) (v i : Value) (W : World) : Prop := ∃ k : Nat, k ≤ l.length ∧ i = .int .i64 k ∧ W.ownsRow w.heap.size 3 1 v (ordK l k).length (icells (iN (ordK l k))) ∧ Below w.heap.size w W
theorem OrR.mk {l : List Tk} {w : World} {v i : Value} {W : World} (k : Nat) (h1 : k ≤ l.length) (h2 : i = .int .i64 k) (h3 : W.ownsRow w.heap.size 3 1 v (ordK l k).length (icells (iN (ordK l k)))) (h4 : Below w.heap.size w W) : OrR l w v i W := ⟨k, h1, h2, h3, h4⟩
def OrI (l : List Tk) (k : Nat) (W0 : World) (i : Value) (W : World) : Prop := ∃ j : Nat, j ≤ l.length ∧ i = .int .i64 j ∧ Hid (∀ q, q < j → rdy l (ordK l k) q = false) ∧ Below W0.heap.size W0 W
theorem OrI.mk {l : List Tk} {k : Nat} {W0 : World} {i : Value} {W : World} (j : Nat) (h1 : j ≤ l.length) (h2 : i = .int .i64 j) (h3 : Hid (∀ q, q < j → rdy l (ordK l k) q = false)) (h4 : Below W0.heap.size W0 W) : OrI l k W0 i W := ⟨j, h1, h2, h3, h4⟩
set_option maxRecDepth 20000 in
set_option maxHeartbeats 8000000 in
theorem rorder_any (A : Option Addr) (len cap : Nat) (l : List Tk) (w : World) (hm : len ≤ 1000) (hN : okN l) (hf : ∀ i, i < len → (tkA l i).af.length ≤ 1000) (hx : Plan w w.heap.size A len l) :
    Calls Try.prog 70 #[.slice A len cap] w fun e w' => (∃ v, e = .returned v ∧ w'.ownsRow w.heap.size 3 1 v (ord l).length (icells (iN (ord l)))) ∧ Below w.heap.size w w' := by
  obtain rfl : l.length = len := hx.1
  have c1 := fun A n cap xs q W (hn : n ≤ 9223372036854775807) (h : Ints W W.heap.size A n xs) => has_any A n cap xs q W hn h
  have c2 := fun i W (h : Below w.heap.size w W) (hi : i < l.length) => afters_any A l.length cap l i W (by omega) hi (by have := hf i hi; omega) (hx.go h)
  have haz : ∀ i, i < l.length → afZ l i = iN (afs l i) := fun i hi => afZ_afs (hN.2 i hi)
  have c3 := fun A n cap xs A' n' cap' ys W (hn : n ≤ 9223372036854775807) (hn' : n' ≤ 9223372036854775807) (h : Ints W W.heap.size A n xs) (h' : Ints W W.heap.size A' n' ys) => all_any A n cap xs A' n' cap' ys W hn hn' h h'
  have hal : ∀ i, i < l.length → (afs l i).length ≤ 1000 := fun i hi => by rw [afs_len]; exact hf i hi
  obtain ⟨j0, hj, hy0, hy1, hy2⟩ := info_parts jinfo_int
  have hI0 := Lib.hid hj
  have hI1 := Lib.hid hy0
  have hI2 := Lib.hid hy1
  have hI3 := Lib.hid hy2
  have C1 := Lib.hid c1
  have C2 := Lib.hid c2
  have C3 := Lib.hid c3
  have HAZ := Lib.hid haz
  have HAL := Lib.hid hal
  have HKL := Lib.hid (ordK_le l)
  have HO0 := Lib.hid (ord_none l)
  have HL0 := Lib.hid hm
  clear c1 c2 c3 hx hN hf haz hal hj hy0 hy1 hy2
  go_enter Try.func70, Try.ntmps70
  go_wp2
  go_loopw [3, 7] (fun v i wr => OrR l w v i wr) (fun _ i _ => l.length - (intOf i).toNat)
  case atStart => exact OrR.mk 0 (Nat.zero_le _) rfl (World.ownsRow_nil _ _ _ _) (Below.refl _ _)
  case round =>
    obtain ⟨k, hk, rfl, ho, hB⟩ := hrel
    have hKL := HKL.out k
    obtain ⟨A1, cap1, rfl, hq1, hq2, hI, -⟩ := own_ints ho
    have HI := Lib.hid hI
    have HO := Lib.hid ho
    have hbs := hB.size
    clear ho hI
    by_cases hlt : k < l.length
    · have hk1 : (k : Int) < l.length := by omega
      have hk2 : ¬ l.length ≤ k := by omega
      have HB := Lib.hid hB
      generalize hn : (ordK l k).length = n at *
      have HN := Lib.hid hn
      clear hn hB
      go_wp2
      obtain ⟨W0, hW0⟩ : ∃ W0, W0 = wr := ⟨_, rfl⟩
      subst hW0
      go_loopw [3, 4] (fun v i W => v = .slice A1 n cap1 ∧ OrI l k W0 i W) (fun _ i _ => l.length - (intOf i).toNat)
      case atStart => exact ⟨rfl, OrI.mk 0 (Nat.zero_le _) rfl (Lib.hid (fun q hq => absurd hq (by omega))) (Below.refl _ _)⟩
      case round =>
        obtain ⟨rfl, j, hj, rfl, HT, hb⟩ := hrel
        have hBw : Below w.heap.size w wr := HB.out.trans (hb.mono hbs)
        have hsw := hBw.size
        have hs0 := hb.size
        have HOw := Lib.hid (jown_later HO.out hb)
        have HIw := Lib.hid ((HI.out.below hb).more hs0)
        by_cases hlj : j < l.length
        · have hj1 : (j : Int) < l.length := by omega
          have hj2 : ¬ l.length ≤ j := by omega
          have hnl : n ≤ l.length := by rw [← HN.out]; exact HKL.out k
          have hL0 := HL0.out
          have hAL := HAL.out j hlj
          have hcon : (iN (ordK l k)).contains (j : Int) = (ordK l k).contains j := iN_contains _ _
          have hrd : rdy l (ordK l k) j = (!((ordK l k).contains j) && (afs l j).all (ordK l k).contains) := rfl
          have c4 := C1.out A1 n cap1 (iN (ordK l k)) (j : Int) wr (by omega) HIw.out
          rw [hcon] at c4
          cases hcj : (ordK l k).contains j
          · rw [hcj] at c4 hrd
            rw [Bool.not_false, Bool.true_and] at hrd
            have C4 := Lib.hid c4
            have HRD := Lib.hid hrd
            have c5 := C2.out j wr hBw hlj
            rw [HAZ.out j hlj, iN_len] at c5
            have C5 := Lib.hid c5
            clear c4 c5 hrd hcon hcj
            go_wp2_with fail
            refine C4.out.mono ?_
            rintro e w1 ⟨rfl, rfl⟩
            clear C4
            go_wp2_with fail
            refine C5.out.mono ?_
            rintro e w1 ⟨⟨v, rfl, ho2⟩, hb2⟩
            have hB2 : Below w.heap.size w w1 := hBw.trans (hb2.mono hsw)
            have hs2 := hb2.size
            obtain ⟨A2, cap2, rfl, hm1, hm2, hI2, -⟩ := own_ints ho2
            have c6 := C3.out A1 n cap1 (iN (ordK l k)) A2 (afs l j).length cap2 (iN (afs l j)) w1 (by omega) (by omega) ((HIw.out.below hb2).more hs2) hI2
            rw [iN_all] at c6
            have HO1 := Lib.hid (jown_later HOw.out hb2)
            have hb01 : Below W0.heap.size W0 w1 := hb.trans (hb2.mono hs0)
            clear ho2 hI2 hb2 C5 HOw HIw
            cases hal : (afs l j).all (ordK l k).contains
            · rw [hal] at c6
              have C6 := Lib.hid c6
              have HT2 : Hid (∀ q, q < j + 1 → rdy l (ordK l k) q = false) := Lib.hid (fun q hq => by
                by_cases e : q = j
                · subst e; rw [HRD.out]; exact hal
                · exact HT.out q (by omega))
              clear c6 hal
              go_wp2_with fail
              refine C6.out.mono ?_
              rintro e w2 ⟨rfl, rfl⟩
              go_wp2
              go_roundw
              case rel => exact ⟨rfl, OrI.mk (j + 1) (by omega) (by go_num) HT2 hb01⟩
              case measure => simp [intOf]; omega
            · rw [hal] at c6
              have C6 := Lib.hid c6
              have HNX : Hid (nxt l (ordK l k) = some j) := Lib.hid (nxt_is hlj (by rw [HRD.out]; exact hal) HT.out)
              clear c6 hal
              go_wp2_with fail
              refine C6.out.mono ?_
              rintro e w2 ⟨rfl, rfl⟩
              go_wp2_with (at_builtin; go_loud (refine wpList_append_own _ rfl (.tmp 26) (.tmp 28) 32 rfl w.heap.size 3 j0 (.int .i64 0) 1 8 Try.underlying32 hI0.out hI1.out hI2.out hI3.out rfl (by decide) _ _ _ rfl (HO1.out.alloc _) ⟨w1.heap.size, 0, none⟩ 1 1 [.int .i64 (j : Int)] rfl rfl (jnews1 _ _ _) (jone1 _) (by unfold maxLen; omega) (by omega) (by simp; omega) ?_))
              intro v8 w8 hown8 hgrow8 _
              have hb9 : Below w.heap.size (w1.alloc (.cells #[.int .i64 (j : Int)] 3)) w8 := grown_below hgrow8 (by simp; omega) (fun q hq => ((HO1.out.alloc (.cells #[.int .i64 (j : Int)] 3)).lt q hq).1)
              have hb10 := (hB2.alloc (by omega) (.cells #[.int .i64 (j : Int)] 3)).trans hb9
              have HR2 : Hid (w8.ownsRow w.heap.size 3 1 v8 (n + 1) (icells (iN (ordK l k ++ [j])))) := Lib.hid (by rw [iN_app, icells_app]; exact hown8)
              clear hown8 hgrow8 hb9 HO1
              go_wp2
              go_roundw
              case rel => exact OrR.mk (k + 1) (by omega) (by go_num) (by rw [ordK_next HNX.out, List.length_append, HN.out]; exact HR2.out) hb10
              case measure => simp [intOf]; omega
          · rw [hcj] at c4 hrd
            rw [Bool.not_true, Bool.false_and] at hrd
            have C4 := Lib.hid c4
            have HT2 : Hid (∀ q, q < j + 1 → rdy l (ordK l k) q = false) := Lib.hid (fun q hq => by
              by_cases e : q = j
              · subst e; exact hrd
              · exact HT.out q (by omega))
            clear c4 hrd hcon hcj
            go_wp2_with fail
            refine C4.out.mono ?_
            rintro e w1 ⟨rfl, rfl⟩
            go_wp2
            go_roundw
            case rel => exact ⟨rfl, OrI.mk (j + 1) (by omega) (by go_num) HT2 hb⟩
            case measure => simp [intOf]; omega
        · have hjl : j = l.length := by omega
          have hj1 : ¬ (j : Int) < l.length := by omega
          have HNX : Hid (nxt l (ordK l k) = none) := Lib.hid (nxt_isNone fun q hq => HT.out q (by omega))
          clear HT
          go_wp2
          go_roundw
          case rel => exact OrR.mk (k + 1) (by omega) (by go_num) (by rw [ordK_stay HNX.out, HN.out]; exact HOw.out) hBw
          case measure => simp [intOf]; omega
    · have hkl : k = l.length := by omega
      have hk1 : ¬ (k : Int) < l.length := by omega
      have HB := Lib.hid hB
      have HR : Hid (wr.ownsRow w.heap.size 3 1 (.slice A1 (ordK l k).length cap1) (ord l).length (icells (iN (ord l)))) := Lib.hid (by rw [hkl]; rw [hkl] at HO; exact HO.out)
      subst hkl
      clear hB HO HI
      go_wp2
      go_ret
      exact ⟨⟨_, rfl, HR.out⟩, HB.out⟩
end Go.Proofs.Ytgijekhlbkfanaa

namespace Go.Proofs.Ytgijekhlbkfanaa
open Go.RowKit
attribute [local go_sem] Later.cell Same.cell

theorem fndZ_lt {l : List Tk} {s : ByteArray} (h : fnd l s < l.length) : fndZ l s = (fnd l s : Int) := if_pos h
theorem fndZ_no {l : List Tk} {s : ByteArray} (h : ¬ fnd l s < l.length) : fndZ l s = -1 := if_neg h
theorem Rows.take' {w : World} {B : Nat} {A : Option Addr} {n k : Nat} {ss : List ByteArray} (h : Strs w B A n ss) (hk : k ≤ n) : Strs w B A k (ss.take k) := by
  refine ⟨by rw [List.length_take, h.1]; omega, fun h0 => ?_⟩
  obtain ⟨b, off, h1, h2, h3⟩ := h.2 (by omega)
  refine ⟨b, off, h1, h2, fun j hj q v hv => h3 j (by omega) q v ?_⟩
  rw [List.getElem?_take, if_pos hj] at hv; exact hv
set_option maxRecDepth 20000 in
set_option maxHeartbeats 8000000 in
theorem rCheck_any (A : Option Addr) (len cap : Nat) (l : List Tk) (w : World) (hS : Sml l) (hx : Plan w w.heap.size A len l) :
    Calls Try.prog 30 #[.slice A len cap] w fun e w' => e = .returned (.int .i64 (checkE l)) ∧ Below w.heap.size w w' := by
  obtain rfl : l.length = len := hx.1
  by_cases h0 : l.length = 0
  · have hE : checkE l = 8 := by unfold checkE; rw [if_pos h0]
    rw [hE]
    have h00 : ((l.length : Int) == 0) = true := by simp [h0]
    clear hx hE
    go_enter Try.func30, Try.ntmps30
    go_wp2
    go_ret
    exact ⟨rfl, (by repeat (first | exact Below.refl _ _ | assumption | refine Below.setCell ?_ (by first | (simp; done) | (simp; omega) | omega) _ | refine Below.drew ?_ | refine below_drewN ?_ _ | refine Below.alloc ?_ (by first | (simp; done) | (simp; omega) | omega) _ | refine below_alloc ?_ _ | refine below_step ?_ (by assumption)))⟩
  · have h00 : ((l.length : Int) == 0) = false := by simpa using h0
    by_cases h20 : 20 < l.length
    · have hE : checkE l = 4 := by unfold checkE; rw [if_neg h0, if_pos h20]
      rw [hE]
      have h21 : (20 : Int) < l.length := by omega
      clear hx hE h0
      go_enter Try.func30, Try.ntmps30
      go_wp2
      go_ret
      exact ⟨rfl, (by repeat (first | exact Below.refl _ _ | assumption | refine Below.setCell ?_ (by first | (simp; done) | (simp; omega) | omega) _ | refine Below.drew ?_ | refine below_drewN ?_ _ | refine Below.alloc ?_ (by first | (simp; done) | (simp; omega) | omega) _ | refine below_alloc ?_ _ | refine below_step ?_ (by assumption)))⟩
    · have h21 : ¬ (20 : Int) < l.length := by omega
      have hSl := hS.len
      have c1 := fun s W (h : Below w.heap.size w W) => find_any A l.length cap l s W (by omega) (hx.go h)
      have c2 := fun i W (hi : i < l.length) => IsName_any (tkA l i).nm W (hS.nm i hi)
      have c3 := fun n lo hi W => qwithin_any n lo hi W
      have c4 := fun A n cap xs s W (hn : n ≤ 9223372036854775807) (h : Strs W W.heap.size A n xs) => Has_any A n cap xs s W hn h
      have c5 := fun (ha : aloneE l = 0) (hn : namesE l = 0) W (h : Below w.heap.size w W) => rorder_any A l.length cap l W hSl (okN_mk ha hn) hS.af (hx.go h)
      have e1 := fun k hk hf hne => check_first (l := l) (k := k) h0 h20 hk hf hne
      have e2 := fun i k ha hi hr hk hf hne => check_second (l := l) (i := i) (k := k) h0 h20 ha hi hr hk hf hne
      have e3 := fun ha hn => check_last (l := l) h0 h20 ha hn
      generalize hR : checkE l = R at *
      have C1 := Lib.hid c1
      have C2 := Lib.hid c2
      have C3 := Lib.hid c3
      have C4 := Lib.hid c4
      have C5 := Lib.hid c5
      have E1 := Lib.hid e1
      have E2 := Lib.hid e2
      have E3 := Lib.hid e3
      have HX := Lib.hid hx
      have HS := Lib.hid hS
      have HL0 := Lib.hid hSl
      clear c1 c2 c3 c4 c5 e1 e2 e3 hx hR hS h0 h20 hSl
      go_enter Try.func30, Try.ntmps30
      go_wp2
      go_loopw [3] (fun i W => ∃ k : Nat, k ≤ l.length ∧ i = .int .i64 k ∧ Hid (frst ((List.range k).map (tkE l)) = 0) ∧ Below w.heap.size w W) (fun i _ => l.length - (intOf i).toNat)
      case atStart => exact ⟨0, Nat.zero_le _, rfl, Lib.hid rfl, Below.refl _ _⟩
      case round =>
        obtain ⟨k, hk, rfl, HT, hB⟩ := hrel
        by_cases hlt : k < l.length
        · obtain ⟨b, off, rfl, hb0, hc1, hc2, hc3, A', n, cc, hc4, hn1, hn2, hSt⟩ := (HX.out.below hB).at_ k hlt
          have hbs := hB.size
          have hb1 : b < wr.heap.size := by omega
          have hk1 : (k : Int) < l.length := by omega
          have hk2 : ¬ l.length ≤ k := by omega
          have HE1 := Lib.hid (E1.out k hlt HT.out)
          have HTN := Lib.hid (fun h => frst_next (f := tkE l) HT.out h)
          have hnl : (tkA l k).af.length = n := hSt.1
          have hfo := fnd_of hlt
          have c6 := C2.out k wr hlt
          have c7 := C1.out (tkA l k).nm wr hB
          rw [fndZ_lt (by omega)] at c7
          have hcs := tk_cases l k
          rw [hnl] at hcs
          clear hSt hnl hfo
          generalize (tkA l k).nm = X at *
          generalize (tkA l k).dy = Y at *
          generalize (tkA l k).mn = Z at *
          generalize tkE l k = T at *
          generalize fnd l X = F at *
          have HB := Lib.hid hB
          rcases hcs with ⟨a1, rfl⟩ | ⟨⟨a1, a2⟩, rfl⟩ | ⟨⟨a1, a2, a3⟩, rfl⟩ | ⟨⟨a1, a2, a3⟩, hcs⟩
          · rw [a1] at c6
            have C6 := Lib.hid c6
            have HF := Lib.hid (HE1.out (by decide))
            clear c6 c7 a1 HTN HE1 HT
            go_wp2_with fail
            refine C6.out.mono ?_
            rintro e w1 ⟨rfl, rfl⟩
            go_wp2
            go_ret
            exact ⟨ret_int HF.out, HB.out⟩
          · rw [a1] at c6
            have C6 := Lib.hid c6
            have c8 := C3.out Y 1 1000 wr
            rw [a2] at c8
            have C8 := Lib.hid c8
            have HF := Lib.hid (HE1.out (by decide))
            clear c6 c7 c8 a1 a2 HTN HE1 HT
            go_wp2_with fail
            refine C6.out.mono ?_
            rintro e w1 ⟨rfl, rfl⟩
            go_wp2_with fail
            refine C8.out.mono ?_
            rintro e w1 ⟨rfl, rfl⟩
            go_wp2
            go_ret
            exact ⟨ret_int HF.out, HB.out⟩
          · rw [a1] at c6
            have C6 := Lib.hid c6
            have c8 := C3.out Y 1 1000 wr
            rw [a2] at c8
            have C8 := Lib.hid c8
            have c9 := C3.out Z 1 16 wr
            rw [a3] at c9
            have C9 := Lib.hid c9
            have HF := Lib.hid (HE1.out (by decide))
            clear c6 c7 c8 c9 a1 a2 a3 HTN HE1 HT
            go_wp2_with fail
            refine C6.out.mono ?_
            rintro e w1 ⟨rfl, rfl⟩
            go_wp2_with fail
            refine C8.out.mono ?_
            rintro e w1 ⟨rfl, rfl⟩
            go_wp2_with fail
            refine C9.out.mono ?_
            rintro e w1 ⟨rfl, rfl⟩
            go_wp2
            go_ret
            exact ⟨ret_int HF.out, HB.out⟩
          · rw [a1] at c6
            have C6 := Lib.hid c6
            have c8 := C3.out Y 1 1000 wr
            rw [a2] at c8
            have C8 := Lib.hid c8
            have c9 := C3.out Z 1 16 wr
            rw [a3] at c9
            have C9 := Lib.hid c9
            have C7 := Lib.hid c7
            clear c6 c7 c8 c9 a1 a2 a3
            rcases hcs with ⟨a4, rfl⟩ | ⟨a4, a5, rfl⟩ | ⟨a4, a5, rfl⟩
            · have a6 : (F : Int) < k := by omega
              have HF := Lib.hid (HE1.out (by decide))
              clear HTN HE1 HT
              go_wp2_with fail
              refine C6.out.mono ?_
              rintro e w1 ⟨rfl, rfl⟩
              go_wp2_with fail
              refine C8.out.mono ?_
              rintro e w1 ⟨rfl, rfl⟩
              go_wp2_with fail
              refine C9.out.mono ?_
              rintro e w1 ⟨rfl, rfl⟩
              go_wp2_with fail
              refine C7.out.mono ?_
              rintro e w1 ⟨rfl, hb2⟩
              have hB2 := Lib.hid (hB.trans (hb2.mono hbs))
              clear hb2
              go_wp2
              go_ret
              exact ⟨ret_int HF.out, hB2.out⟩
            · have a6 : ¬ (F : Int) < k := by omega
              have a7 : (10 : Int) < n := by omega
              have HF := Lib.hid (HE1.out (by decide))
              clear HTN HE1 HT
              go_wp2_with fail
              refine C6.out.mono ?_
              rintro e w1 ⟨rfl, rfl⟩
              go_wp2_with fail
              refine C8.out.mono ?_
              rintro e w1 ⟨rfl, rfl⟩
              go_wp2_with fail
              refine C9.out.mono ?_
              rintro e w1 ⟨rfl, rfl⟩
              go_wp2_with fail
              refine C7.out.mono ?_
              rintro e w1 ⟨rfl, hb2⟩
              have hB2 := Lib.hid (hB.trans (hb2.mono hbs))
              have hc5 : w1.cell? ⟨b, off + k * 4 + 3, none⟩ = some (.slice A' n cc) := by rw [hb2.cell (p := ⟨b, _, none⟩) hb1]; exact hc4
              clear hb2
              go_wp2
              go_ret
              exact ⟨ret_int HF.out, hB2.out⟩
            · have a6 : ¬ (F : Int) < k := by omega
              have a7 : ¬ (10 : Int) < n := by omega
              have HF := Lib.hid (HTN.out rfl)
              clear HTN HE1 HT
              go_wp2_with fail
              refine C6.out.mono ?_
              rintro e w1 ⟨rfl, rfl⟩
              go_wp2_with fail
              refine C8.out.mono ?_
              rintro e w1 ⟨rfl, rfl⟩
              go_wp2_with fail
              refine C9.out.mono ?_
              rintro e w1 ⟨rfl, rfl⟩
              go_wp2_with fail
              refine C7.out.mono ?_
              rintro e w1 ⟨rfl, hb2⟩
              have hB2 := Lib.hid (hB.trans (hb2.mono hbs))
              have hc5 : w1.cell? ⟨b, off + k * 4 + 3, none⟩ = some (.slice A' n cc) := by rw [hb2.cell (p := ⟨b, _, none⟩) hb1]; exact hc4
              clear hb2
              go_wp2
              go_roundw
              case rel => exact ⟨k + 1, by omega, by go_num, HF, hB2.out⟩
              case measure => simp [intOf]; omega
        · have hkl : k = l.length := by omega
          have hk1 : ¬ (k : Int) < l.length := by omega
          have HA : Hid (aloneE l = 0) := Lib.hid (by unfold aloneE; rw [← hkl]; exact HT.out)
          have HB := Lib.hid hB
          have E2' := Lib.hid (fun i k => E2.out i k HA.out)
          have E3' := Lib.hid (E3.out HA.out)
          have C5' := Lib.hid (C5.out HA.out)
          subst hkl
          clear HT E1 E2 E3 C2 C3 C5 hB HS
          go_wp2
          go_loopw [4] (fun i W => ∃ k : Nat, k ≤ l.length ∧ i = .int .i64 k ∧ Hid (frst ((List.range k).map (rowE l)) = 0) ∧ Below w.heap.size w W) (fun i _ => l.length - (intOf i).toNat)
          case atStart => exact ⟨0, Nat.zero_le _, rfl, Lib.hid rfl, HB.out⟩
          case round =>
            obtain ⟨i, hi, rfl, HT, hB⟩ := hrel
            by_cases hlt : i < l.length
            · obtain ⟨b, off, hA, hb0, -, -, -, A', n, cc, hc4, hn1, hn2, hSt⟩ := HX.out.at_ i hlt
              have HSt := Lib.hid hSt
              have hC4 := Lib.hid hc4
              have hi1 : (i : Int) < l.length := by omega
              have hi2 : ¬ l.length ≤ i := by omega
              have hnl : (tkA l i).af.length = n := hSt.1
              have HE2 := Lib.hid (fun k (hk : k < n) => E2'.out i k hlt HT.out (by rw [hnl]; exact hk))
              have HTN := Lib.hid (fun h => frst_next (f := rowE l) HT.out h)
              have HNL := Lib.hid hnl
              have HB0 := Lib.hid hB
              have hnb : n ≤ 9223372036854775807 := by omega
              clear hSt hnl hB hc4 HT E2'
              have hbs := HB0.out.size
              have hcw : wr.cell? ⟨b, off + i * 4 + 3, none⟩ = some (.slice A' n cc) := by rw [HB0.out.cell (p := ⟨b, _, none⟩) hb0]; exact hC4.out
              have hb1 : b < wr.heap.size := by omega
              subst hA
              go_wp2
              go_loopw [5] (fun i' W => ∃ k : Nat, k ≤ n ∧ i' = .int .i64 k ∧ Hid (frst ((List.range k).map (afE l i)) = 0) ∧ Below w.heap.size w W) (fun i _ => n - (intOf i).toNat)
              case atStart => exact ⟨0, Nat.zero_le _, rfl, Lib.hid rfl, HB0.out⟩
              case round =>
                clear hcw hb1 hbs
                obtain ⟨k, hk, rfl, HT, hB⟩ := hrel
                have hbs := hB.size
                have hb1 : b < wr.heap.size := by omega
                have hcw : wr.cell? ⟨b, off + i * 4 + 3, none⟩ = some (.slice A' n cc) := by rw [hB.cell (p := ⟨b, _, none⟩) hb0]; exact hC4.out
                by_cases hlk : k < n
                · obtain ⟨b2, off2, rfl, hb2, hc6⟩ := (HSt.out.below hB).atS k hlk
                  have hb3 : b2 < wr.heap.size := by omega
                  have hk1 : (k : Int) < n := by omega
                  have hk2 : ¬ n ≤ k := by omega
                  have HE := Lib.hid (HE2.out k hlk HT.out)
                  have HTM := Lib.hid (fun h => frst_next (f := afE l i) HT.out h)
                  have hcs := af_cases l i k
                  have c7 := C1.out (afA l i k) wr hB
                  have c8 := fun W (h : Below w.heap.size w W) => C4.out (some ⟨b2, off2, none⟩) k cc ((tkA l i).af.take k) (afA l i k) W (by omega) (((HSt.out.take' (by omega)).below h).more h.size)
                  change wr.cell? _ = some (.string (afA l i k)) at hc6
                  generalize afA l i k = X at *
                  generalize afE l i k = T at *
                  have HB := Lib.hid hB
                  rcases hcs with ⟨a1, rfl⟩ | ⟨a1, a2, rfl⟩ | ⟨a1, a2, rfl⟩
                  · rw [fndZ_no a1] at c7
                    have C7 := Lib.hid c7
                    have HF := Lib.hid (HE.out (by decide))
                    clear c7 c8 a1 HE HTM HT hB
                    go_wp2_with fail
                    refine C7.out.mono ?_
                    rintro e w1 ⟨rfl, hb2⟩
                    have hB2 := Lib.hid (HB.out.trans (hb2.mono hbs))
                    clear hb2
                    go_wp2
                    go_ret
                    exact ⟨ret_int HF.out, hB2.out⟩
                  · rw [fndZ_lt a1] at c7
                    have C7 := Lib.hid c7
                    rw [a2] at c8
                    have C8 := Lib.hid c8
                    have HF := Lib.hid (HE.out (by decide))
                    generalize fnd l X = F at *
                    clear c7 c8 a1 a2 HE HTM HT hB
                    go_wp2_with fail
                    refine C7.out.mono ?_
                    rintro e w1 ⟨rfl, hbb⟩
                    have hB2 := (HB.out.trans (hbb.mono hbs))
                    have hcw2 : w1.cell? ⟨b, off + i * 4 + 3, none⟩ = some (.slice (some ⟨b2, off2, none⟩) n cc) := by rw [hbb.cell (p := ⟨b, _, none⟩) hb1]; exact hcw
                    have hc62 : w1.cell? ⟨b2, off2 + k, none⟩ = some (.string X) := by rw [hbb.cell (p := ⟨b2, _, none⟩) hb3]; exact hc6
                    have hs2 := hbb.size
                    have hb12 : b < w1.heap.size := by omega
                    have hb32 : b2 < w1.heap.size := by omega
                    clear hbb hcw hc6
                    go_wp2_with fail
                    (refine wp_region_later (by kernel_rfl) (by kernel_rfl) ?_; (repeat (go_big_quiet_step ((go_at_call 75; exact later_same (C8.out _ (below_step hB2 (‹Later _›).h)))))); refine wpQuiet_nil ?_)
                    intro w3 hb3
                    have hB3 := Lib.hid (hB2.trans (hb3.mono hB2.size))
                    clear hb3
                    go_wp2
                    go_ret
                    exact ⟨ret_int HF.out, hB3.out⟩
                  · rw [fndZ_lt a1] at c7
                    have C7 := Lib.hid c7
                    rw [a2] at c8
                    have C8 := Lib.hid c8
                    have HF := Lib.hid (HTM.out rfl)
                    generalize fnd l X = F at *
                    clear c7 c8 a1 a2 HE HTM HT hB
                    go_wp2_with fail
                    refine C7.out.mono ?_
                    rintro e w1 ⟨rfl, hbb⟩
                    have hB2 := (HB.out.trans (hbb.mono hbs))
                    have hcw2 : w1.cell? ⟨b, off + i * 4 + 3, none⟩ = some (.slice (some ⟨b2, off2, none⟩) n cc) := by rw [hbb.cell (p := ⟨b, _, none⟩) hb1]; exact hcw
                    have hc62 : w1.cell? ⟨b2, off2 + k, none⟩ = some (.string X) := by rw [hbb.cell (p := ⟨b2, _, none⟩) hb3]; exact hc6
                    have hs2 := hbb.size
                    have hb12 : b < w1.heap.size := by omega
                    have hb32 : b2 < w1.heap.size := by omega
                    clear hbb hcw hc6
                    go_wp2_with fail
                    (refine wp_region_later (by kernel_rfl) (by kernel_rfl) ?_; (repeat (go_big_quiet_step ((go_at_call 75; exact later_same (C8.out _ (below_step hB2 (‹Later _›).h)))))); refine wpQuiet_nil ?_)
                    intro w3 hb3
                    have hB3 := Lib.hid (hB2.trans (hb3.mono hB2.size))
                    clear hb3
                    go_wp2
                    go_roundw
                    case rel => exact ⟨k + 1, by omega, by go_num, HF, hB3.out⟩
                    case measure => simp [intOf]; omega
                · have hkn : k = n := by omega
                  have hk1 : ¬ (k : Int) < n := by omega
                  have HF := Lib.hid (HTN.out (by unfold rowE; rw [HNL.out, ← hkn]; exact HT.out))
                  have HB := Lib.hid hB
                  clear HT HTN HE2 hB
                  go_wp2
                  go_roundw
                  case rel => exact ⟨i + 1, by omega, by go_num, HF, HB.out⟩
                  case measure => simp [intOf]; omega
            · have hil : i = l.length := by omega
              have hi1 : ¬ (i : Int) < l.length := by omega
              have HN : Hid (namesE l = 0) := Lib.hid (by unfold namesE; rw [← hil]; exact HT.out)
              have HF := Lib.hid (E3'.out HN.out)
              have c5 := C5'.out HN.out wr hB
              have hle := ordK_le l l.length
              change (ord l).length ≤ l.length at hle
              have HB := Lib.hid hB
              have hbs := hB.size
              subst hil
              generalize (ord l).length = n at *
              have C9 := Lib.hid c5
              clear c5 HT E3' E2' C5' hB
              by_cases hn : n < l.length
              · have hn1 : (n : Int) < l.length := by omega
                have HG : Hid (10 = R) := Lib.hid (by rw [HF.out, if_pos hn])
                clear HF
                go_wp2_with fail
                refine C9.out.mono ?_
                rintro e w1 ⟨⟨v, rfl, ho⟩, hb⟩
                obtain ⟨A1, cap1, rfl, -, -, -, -⟩ := own_ints ho
                have hB2 := Lib.hid (HB.out.trans (hb.mono hbs))
                clear ho hb
                go_wp2
                go_ret
                exact ⟨ret_int HG.out, hB2.out⟩
              · have hn1 : ¬ (n : Int) < l.length := by omega
                have HG : Hid (0 = R) := Lib.hid (by rw [HF.out, if_neg hn])
                clear HF
                go_wp2_with fail
                refine C9.out.mono ?_
                rintro e w1 ⟨⟨v, rfl, ho⟩, hb⟩
                obtain ⟨A1, cap1, rfl, -, -, -, -⟩ := own_ints ho
                have hB2 := Lib.hid (HB.out.trans (hb.mono hbs))
                clear ho hb
                go_wp2
                go_ret
                exact ⟨ret_int HG.out, hB2.out⟩
end Go.Proofs.Ytgijekhlbkfanaa

namespace Go.Proofs.Ytgijekhlbkfanaa
open Go.RowKit Go.Shelf
attribute [local go_sem] Later.cell Same.cell

set_option maxRecDepth 20000 in
set_option maxHeartbeats 2000000 in
theorem dated_any (A : Option Addr) (len cap : Nat) (l : List Tk) (A' : Option Addr) (len' cap' : Nat) (days : List Int) (w : World) (hm : len ≤ 9223372036854775807) (hm' : len' ≤ 9223372036854775807) (hl : l.length = len) (hx : Ints w w.heap.size A' len' days) :
    Calls Try.prog 99 #[.slice A len cap, .slice A' len' cap'] w fun e w' => e = .returned (.bool (bgB l days)) ∧ w = w' := by
  obtain rfl : days.length = len' := hx.1
  subst hl
  have HB : Hid (bgB l days = (decide (days.length = l.length) && dysB days)) := Lib.hid rfl
  generalize bgB l days = M at *
  have HX := Lib.hid hx
  clear hx
  go_enter Try.func99, Try.ntmps99
  by_cases h : days.length = l.length
  · have h1 : (days.length : Int) = l.length := by omega
    have h2 : ((days.length : Int) == (l.length : Int)) = true := by simpa using h1
    rw [decide_eq_true h, Bool.true_and] at HB
    clear h
    go_wp2
    go_loopw [5] (fun i W => ∃ k : Nat, k ≤ days.length ∧ i = .int .i64 k ∧ Hid (∀ j, j < k → wi (gI days j) 0 100000 = true) ∧ w = W) (fun i _ => days.length - (intOf i).toNat)
    case atStart => exact ⟨0, Nat.zero_le _, rfl, Lib.hid (fun j hj => absurd hj (by omega)), rfl⟩
    case round =>
      obtain ⟨k, hk, rfl, hT, rfl⟩ := hrel
      by_cases hlt : k < days.length
      · obtain ⟨b, off, rfl, hb0, hc1⟩ := HX.out.at_ k hlt
        change w.cell? _ = some (.int .i64 (gI days k)) at hc1
        have c2 := qwithin_any (gI days k) 0 100000 w
        have hk1 : (k : Int) < days.length := by omega
        have hk2 : ¬ days.length ≤ k := by omega
        cases hv : wi (gI days k) 0 100000
        · have HF : Hid (false = M) := Lib.hid (by rw [HB.out, dysB_no hlt hv])
          rw [hv] at c2
          generalize gI days k = X at *
          have C2 := Lib.hid c2
          clear c2 hT hv HB
          go_wp2_with fail
          refine C2.out.mono ?_
          rintro e w1 ⟨rfl, rfl⟩
          go_wp2
          go_ret
          exact ⟨ret_bool HF.out, rfl⟩
        · have hT2 : Hid (∀ j, j < k + 1 → wi (gI days j) 0 100000 = true) := Lib.hid (fun j hj => if e : j = k then (by rw [e]; exact hv) else hT.out j (by omega))
          rw [hv] at c2
          generalize gI days k = X at *
          have C2 := Lib.hid c2
          clear c2 hT hv
          go_wp2_with fail
          refine C2.out.mono ?_
          rintro e w1 ⟨rfl, rfl⟩
          go_wp2
          go_roundw
          case rel => exact ⟨k + 1, by omega, by go_num, hT2, by first | rfl | trivial⟩
          case measure => simp [intOf]; omega
      · have hk1 : ¬ (k : Int) < days.length := by omega
        have HF : Hid (true = M) := Lib.hid (by rw [HB.out, dysB_yes fun j hj => hT.out j (by omega)])
        clear hT HB
        go_wp2
        go_ret
        exact ⟨ret_bool HF.out, rfl⟩
  · have HF : Hid (false = M) := Lib.hid (by rw [HB.out, decide_eq_false h, Bool.false_and])
    have h2 : ((days.length : Int) == (l.length : Int)) = false := by simpa using (show ¬ (days.length : Int) = l.length by omega)
    clear HB
    go_wp2
    go_ret
    exact ⟨ret_bool HF.out, rfl⟩
set_option maxRecDepth 20000 in
set_option maxHeartbeats 8000000 in
theorem rmen_any (A : Option Addr) (len cap : Nat) (l : List Tk) (A' : Option Addr) (cap' : Nat) (days : List Int) (e0 : Int) (w : World) (hP : okP l) (hx : Plan w w.heap.size A len l) (hy : Ints w w.heap.size A' len days) (hd : bdE 1000000 days) :
    Calls Try.prog 100 #[.slice A len cap, .slice A' len cap', .int .i64 e0] w fun e w' => e = .returned (.int .i64 (menV l days e0)) ∧ Below w.heap.size w w' := by
  obtain rfl : l.length = len := hx.1
  have hL := hP.len
  have HX := Lib.hid hx
  have HY := Lib.hid hy
  have HP := Lib.hid hP
  have HM := Lib.hid (fun k hk => mnG_bd hP days e0 k hk)
  have HD := Lib.hid hd
  rw [menV_is]
  clear hx hy hP hd
  go_enter Try.func100, Try.ntmps100
  go_wp2
  go_loopw [7, 8] (fun v i W => ∃ k : Nat, k ≤ l.length ∧ i = .int .i64 (k : Int) ∧ v = .int .i64 (sN (mnG l days e0) k) ∧ Below w.heap.size w W) (fun _ i _ => l.length - (intOf i).toNat)
  case atStart => exact ⟨0, Nat.zero_le _, rfl, rfl, Below.refl _ _⟩
  case round =>
    obtain ⟨k, hk, rfl, rfl, hB⟩ := hrel
    have hbs := hB.size
    by_cases hlt : k < l.length
    · obtain ⟨b, off, rfl, hb0, hc1, hc2, hc3, -⟩ := (HX.out.below hB).at_ k hlt
      obtain ⟨b2, off2, rfl, hb2, hc6⟩ := (HY.out.below hB).at_ k hlt
      change wr.cell? _ = some (.int .i64 (gI days k)) at hc6
      have hk1 : (k : Int) < l.length := by omega
      have hk2 : ¬ l.length ≤ k := by omega
      have hb1 : b < wr.heap.size := by omega
      have hb3 : b2 < wr.heap.size := by omega
      have hm := HM.out k (by omega)
      have hnx : sN (mnG l days e0) (k + 1) = sN (mnG l days e0) k + mnG l days e0 k := rfl
      have hda := dy_bd HP.out hlt
      have hmz := mnA_bd HP.out hlt
      have hdg := HD.out k
      rw [show mnG l days e0 k = if gI days k ≤ e0 ∧ e0 < gI days k + (tkA l k).dy then (tkA l k).mn else 0 from rfl] at hnx
      change 1 ≤ (tkA l k).dy ∧ (tkA l k).dy ≤ 1000 at hda
      change 1 ≤ (tkA l k).mn ∧ (tkA l k).mn ≤ 16 at hmz
      generalize (tkA l k).dy = Y at *
      generalize (tkA l k).mn = Z at *
      generalize gI days k = G at *
      generalize sN (mnG l days e0) k = M at *
      have hwr : wrap64 (G + Y) = G + Y := IntWalk.wrap64_in _ ⟨by omega, by omega⟩
      have hwr3 : wrap64 (M + Z) = M + Z := IntWalk.wrap64_in _ ⟨by omega, by omega⟩
      by_cases hin : G ≤ e0
      · have hd1 : decide (G ≤ e0) = true := decide_eq_true hin
        by_cases hin2 : e0 < G + Y
        · have HNX : Hid (sN (mnG l days e0) (k + 1) = M + Z) := Lib.hid (by rw [hnx, if_pos ⟨hin, hin2⟩])
          have hd2 : decide (e0 < G + Y) = true := decide_eq_true hin2
          clear hnx hc1
          go_wp2_with fail
          (refine wp_region_later (by kernel_rfl) (by kernel_rfl) ?_; (repeat (go_big_quiet_step ((fail)))); refine wpQuiet_nil ?_)
          intro w3 hb3'
          have t2 := (hb3'.cell (p := ⟨b, off + k * 4 + 2, none⟩) hb1).trans hc3
          have hB3 : Below w.heap.size w w3 := hB.trans (hb3'.mono hbs)
          clear hb3' hc3 hc2 hc6
          go_wp2
          go_roundw
          case rel => exact ⟨k + 1, by omega, by go_num, by rw [HNX.out], hB3⟩
          case measure => simp [intOf]; omega
        · have HNX : Hid (sN (mnG l days e0) (k + 1) = M) := Lib.hid (by rw [hnx, if_neg (fun hh => hin2 hh.2)]; omega)
          have hd2 : decide (e0 < G + Y) = false := decide_eq_false hin2
          clear hnx hc1
          go_wp2_with fail
          (refine wp_region_later (by kernel_rfl) (by kernel_rfl) ?_; (repeat (go_big_quiet_step ((fail)))); refine wpQuiet_nil ?_)
          intro w3 hb3'
          have hB3 : Below w.heap.size w w3 := hB.trans (hb3'.mono hbs)
          clear hb3' hc3 hc2 hc6
          go_wp2
          go_roundw
          case rel => exact ⟨k + 1, by omega, by go_num, by rw [HNX.out], hB3⟩
          case measure => simp [intOf]; omega
      · have HNX : Hid (sN (mnG l days e0) (k + 1) = M) := Lib.hid (by rw [hnx, if_neg (fun hh => hin hh.1)]; omega)
        have hd1 : decide (G ≤ e0) = false := decide_eq_false hin
        clear hnx hc1
        go_wp2_with fail
        (refine wp_region_later (by kernel_rfl) (by kernel_rfl) ?_; (repeat (go_big_quiet_step ((fail)))); refine wpQuiet_nil ?_)
        intro w3 hb3'
        have hB3 : Below w.heap.size w w3 := hB.trans (hb3'.mono hbs)
        clear hb3' hc3 hc2 hc6
        go_wp2
        go_roundw
        case rel => exact ⟨k + 1, by omega, by go_num, by rw [HNX.out], hB3⟩
        case measure => simp [intOf]; omega
    · have hkl : k = l.length := by omega
      have hk1 : ¬ (k : Int) < l.length := by omega
      have HB := Lib.hid hB
      subst hkl
      clear hB
      go_wp2
      go_ret
      exact ⟨rfl, HB.out⟩
end Go.Proofs.Ytgijekhlbkfanaa

namespace Go.Proofs.Ytgijekhlbkfanaa
open Go.RowKit Go.Shelf
attribute [local go_sem] Later.cell Same.cell

set_option maxHeartbeats 4000000 in
theorem rEnds_any (A : Option Addr) (len cap : Nat) (l : List Tk) (A' : Option Addr) (len' cap' : Nat) (days : List Int) (w : World) (hS : Sml l) (hm' : len' ≤ 9223372036854775807) (hx : Plan w w.heap.size A len l) (hy : Ints w w.heap.size A' len' days) :
    Calls Try.prog 50 #[.slice A len cap, .slice A' len' cap'] w fun e w' => e = .returned (.tuple #[.int .i64 (endV l days), .int .i64 (endE l days)]) ∧ Below w.heap.size w w' := by
  have hl := hx.1
  have c1 := rCheck_any A len cap l w hS hx
  have c2 := fun W (h : Below w.heap.size w W) => dated_any A len cap l A' len' cap' days W (by have := hS.len; omega) hm' hl ((hy.below h).more h.size)
  by_cases h0 : checkE l = 0
  · have hP := check_spec h0
    rw [h0] at c1
    cases hb : bgB l days
    · rw [hb] at c2
      have hE : endE l days = 7 := by unfold endE; rw [if_pos h0, hb]; rfl
      have hV : endV l days = 0 := by unfold endV; rw [hE]; rfl
      rw [hE, hV]
      have C1 := Lib.hid c1
      have C2 := Lib.hid c2
      clear c1 c2 hx hy hE hV h0 hP hb hl
      go_enter Try.func50, Try.ntmps50
      go_wp2_with fail
      refine C1.out.mono ?_
      rintro e w1 ⟨rfl, hb⟩
      have hB_w1 : Below w.heap.size w w1 := (by repeat (first | exact Below.refl _ _ | assumption | refine Below.setCell ?_ (by first | (simp; done) | (simp; omega) | omega) _ | refine Below.drew ?_ | refine below_drewN ?_ _ | refine Below.alloc ?_ (by first | (simp; done) | (simp; omega) | omega) _ | refine below_alloc ?_ _ | refine below_step ?_ (by assumption))); have hz_w1 := hB_w1.size; clear hb
      go_wp2_with fail
      refine (C2.out _ hB_w1).mono ?_
      rintro e w2 ⟨rfl, rfl⟩
      go_wp2
      go_ret2
      exact ⟨rfl, hB_w1⟩
    · rw [hb] at c2
      have hE : endE l days = 0 := by unfold endE; rw [if_pos h0, hb]; rfl
      have hV : endV l days = endsV l days := by unfold endV; rw [hE]; rfl
      have hbb := hb
      unfold bgB at hbb
      rw [Bool.and_eq_true, decide_eq_true_eq] at hbb
      have hll : days.length = len' := hy.1
      have hle : len' = len := by omega
      subst hle
      have c3 := fun W (h : Below w.heap.size w W) => rends_any A len' cap l A' cap' days W hP (hx.go h) ((hy.below h).more h.size) (dysB_bd hbb.2)
      rw [hE, hV]
      generalize endsV l days = V at *
      have C1 := Lib.hid c1
      have C2 := Lib.hid c2
      have C3 := Lib.hid c3
      clear c1 c2 c3 hx hy hE hV h0 hP hb hbb hl hll
      go_enter Try.func50, Try.ntmps50
      go_wp2_with fail
      refine C1.out.mono ?_
      rintro e w1 ⟨rfl, hb⟩
      have hB_w1 : Below w.heap.size w w1 := (by repeat (first | exact Below.refl _ _ | assumption | refine Below.setCell ?_ (by first | (simp; done) | (simp; omega) | omega) _ | refine Below.drew ?_ | refine below_drewN ?_ _ | refine Below.alloc ?_ (by first | (simp; done) | (simp; omega) | omega) _ | refine below_alloc ?_ _ | refine below_step ?_ (by assumption))); have hz_w1 := hB_w1.size; clear hb
      go_wp2_with fail
      refine (C2.out _ hB_w1).mono ?_
      rintro e w2 ⟨rfl, rfl⟩
      go_wp2_with fail
      refine (C3.out _ hB_w1).mono ?_
      rintro e w3 ⟨rfl, hb⟩
      have hB3 := hB_w1.trans (hb.mono hB_w1.size)
      clear hb
      go_wp2
      go_ret2
      exact ⟨rfl, hB3⟩
  · have hE : endE l days = checkE l := by unfold endE; rw [if_neg h0]
    have hV : endV l days = 0 := by unfold endV; rw [hE, if_neg h0]
    rw [hE, hV]
    have hne : (checkE l == 0) = false := by simpa using h0
    generalize checkE l = E at *
    have C1 := Lib.hid c1
    clear c1 c2 hx hy hE hV h0 hl
    go_enter Try.func50, Try.ntmps50
    go_wp2_with fail
    refine C1.out.mono ?_
    rintro e w1 ⟨rfl, hb⟩
    have hB_w1 : Below w.heap.size w w1 := (by repeat (first | exact Below.refl _ _ | assumption | refine Below.setCell ?_ (by first | (simp; done) | (simp; omega) | omega) _ | refine Below.drew ?_ | refine below_drewN ?_ _ | refine Below.alloc ?_ (by first | (simp; done) | (simp; omega) | omega) _ | refine below_alloc ?_ _ | refine below_step ?_ (by assumption))); have hz_w1 := hB_w1.size; clear hb
    go_wp2
    go_ret2
    exact ⟨rfl, hB_w1⟩
set_option maxHeartbeats 4000000 in
theorem rMen_any (A : Option Addr) (len cap : Nat) (l : List Tk) (A' : Option Addr) (len' cap' : Nat) (days : List Int) (d : Int) (w : World) (hS : Sml l) (hm' : len' ≤ 9223372036854775807) (hx : Plan w w.heap.size A len l) (hy : Ints w w.heap.size A' len' days) :
    Calls Try.prog 52 #[.slice A len cap, .slice A' len' cap', .int .i64 d] w fun e w' => e = .returned (.tuple #[.int .i64 (menX l days d), .int .i64 (menE l days d)]) ∧ Below w.heap.size w w' := by
  have hl := hx.1
  have c1 := rCheck_any A len cap l w hS hx
  have c2 := fun W (h : Below w.heap.size w W) => dated_any A len cap l A' len' cap' days W (by have := hS.len; omega) hm' hl ((hy.below h).more h.size)
  have c4 := fun W => qwithin_any d 0 200000 W
  by_cases h0 : checkE l = 0
  · have hP := check_spec h0
    rw [h0] at c1
    cases hb : bgB l days
    · rw [hb] at c2
      have hE : menE l days d = 7 := by unfold menE; rw [if_pos h0, hb]; rfl
      have hV : menX l days d = 0 := by unfold menX; rw [hE]; rfl
      rw [hE, hV]
      have C1 := Lib.hid c1
      have C2 := Lib.hid c2
      clear c1 c2 c4 hx hy hE hV h0 hP hb hl
      go_enter Try.func52, Try.ntmps52
      go_wp2_with fail
      refine C1.out.mono ?_
      rintro e w1 ⟨rfl, hb⟩
      have hB_w1 : Below w.heap.size w w1 := (by repeat (first | exact Below.refl _ _ | assumption | refine Below.setCell ?_ (by first | (simp; done) | (simp; omega) | omega) _ | refine Below.drew ?_ | refine below_drewN ?_ _ | refine Below.alloc ?_ (by first | (simp; done) | (simp; omega) | omega) _ | refine below_alloc ?_ _ | refine below_step ?_ (by assumption))); have hz_w1 := hB_w1.size; clear hb
      go_wp2_with fail
      refine (C2.out _ hB_w1).mono ?_
      rintro e w2 ⟨rfl, rfl⟩
      go_wp2_with fail
      go_ret2
      exact ⟨rfl, hB_w1⟩
    · rw [hb] at c2
      cases hw : wi d 0 200000
      · rw [hw] at c4
        have hE : menE l days d = 7 := by unfold menE; rw [if_pos h0, hb, hw]; rfl
        have hV : menX l days d = 0 := by unfold menX; rw [hE]; rfl
        rw [hE, hV]
        have C1 := Lib.hid c1
        have C2 := Lib.hid c2
        have C4 := Lib.hid c4
        clear c1 c2 c4 hx hy hE hV h0 hP hb hl hw
        go_enter Try.func52, Try.ntmps52
        go_wp2_with fail
        refine C1.out.mono ?_
        rintro e w1 ⟨rfl, hb⟩
        have hB_w1 : Below w.heap.size w w1 := (by repeat (first | exact Below.refl _ _ | assumption | refine Below.setCell ?_ (by first | (simp; done) | (simp; omega) | omega) _ | refine Below.drew ?_ | refine below_drewN ?_ _ | refine Below.alloc ?_ (by first | (simp; done) | (simp; omega) | omega) _ | refine below_alloc ?_ _ | refine below_step ?_ (by assumption))); have hz_w1 := hB_w1.size; clear hb
        go_wp2_with fail
        refine (C2.out _ hB_w1).mono ?_
        rintro e w2 ⟨rfl, rfl⟩
        go_wp2_with fail
        refine (C4.out _).mono ?_
        rintro e w2 ⟨rfl, rfl⟩
        go_wp2_with fail
        go_ret2
        exact ⟨rfl, hB_w1⟩
      · rw [hw] at c4
        have hE : menE l days d = 0 := by unfold menE; rw [if_pos h0, hb, hw]; rfl
        have hV : menX l days d = menV l days d := by unfold menX; rw [hE]; rfl
        have hbb := hb
        unfold bgB at hbb
        rw [Bool.and_eq_true, decide_eq_true_eq] at hbb
        have hll : days.length = len' := hy.1
        have hle : len' = len := by omega
        subst hle
        have c3 := fun W (h : Below w.heap.size w W) => rmen_any A len' cap l A' cap' days d W hP (hx.go h) ((hy.below h).more h.size) (dysB_bd hbb.2)
        rw [hE, hV]
        generalize menV l days d = V at *
        have C1 := Lib.hid c1
        have C2 := Lib.hid c2
        have C3 := Lib.hid c3
        have C4 := Lib.hid c4
        clear c1 c2 c3 c4 hx hy hE hV h0 hP hb hbb hl hll hw
        go_enter Try.func52, Try.ntmps52
        go_wp2_with fail
        refine C1.out.mono ?_
        rintro e w1 ⟨rfl, hb⟩
        have hB_w1 : Below w.heap.size w w1 := (by repeat (first | exact Below.refl _ _ | assumption | refine Below.setCell ?_ (by first | (simp; done) | (simp; omega) | omega) _ | refine Below.drew ?_ | refine below_drewN ?_ _ | refine Below.alloc ?_ (by first | (simp; done) | (simp; omega) | omega) _ | refine below_alloc ?_ _ | refine below_step ?_ (by assumption))); have hz_w1 := hB_w1.size; clear hb
        go_wp2_with fail
        refine (C2.out _ hB_w1).mono ?_
        rintro e w2 ⟨rfl, rfl⟩
        go_wp2_with fail
        refine (C4.out _).mono ?_
        rintro e w2 ⟨rfl, rfl⟩
        go_wp2_with fail
        refine (C3.out _ hB_w1).mono ?_
        rintro e w3 ⟨rfl, hb⟩
        have hB3 := hB_w1.trans (hb.mono hB_w1.size)
        clear hb
        go_wp2_with fail
        go_ret2
        exact ⟨rfl, hB3⟩
  · have hE : menE l days d = checkE l := by unfold menE; rw [if_neg h0]
    have hV : menX l days d = 0 := by unfold menX; rw [hE, if_neg h0]
    rw [hE, hV]
    have hne : (checkE l == 0) = false := by simpa using h0
    generalize checkE l = E at *
    have C1 := Lib.hid c1
    clear c1 c2 c4 hx hy hE hV h0 hl
    go_enter Try.func52, Try.ntmps52
    go_wp2_with fail
    refine C1.out.mono ?_
    rintro e w1 ⟨rfl, hb⟩
    have hB_w1 : Below w.heap.size w w1 := (by repeat (first | exact Below.refl _ _ | assumption | refine Below.setCell ?_ (by first | (simp; done) | (simp; omega) | omega) _ | refine Below.drew ?_ | refine below_drewN ?_ _ | refine Below.alloc ?_ (by first | (simp; done) | (simp; omega) | omega) _ | refine below_alloc ?_ _ | refine below_step ?_ (by assumption))); have hz_w1 := hB_w1.size; clear hb
    go_wp2_with fail
    go_ret2
    exact ⟨rfl, hB_w1⟩
set_option maxRecDepth 20000 in
set_option maxHeartbeats 4000000 in
theorem strong_any (A : Option Addr) (len cap : Nat) (l : List Tk) (c : Int) (w : World) (hS : Sml l) (hx : Plan w w.heap.size A len l) :
    Calls Try.prog 101 #[.slice A len cap, .int .i64 c] w fun e w' => e = .returned (.int .i64 (crewE l c)) ∧ Below w.heap.size w w' := by
  obtain rfl : l.length = len := hx.1
  have c1 := rCheck_any A l.length cap l w hS hx
  have c2 := fun W => qwithin_any c 1 100 W
  have HE : Hid (crewE l c = if checkE l = 0 then (if wi c 1 100 = true then (if many1 l c = true then 8 else 0) else 7) else checkE l) := Lib.hid rfl
  generalize crewE l c = E at *
  have hL := hS.len
  have HX := Lib.hid hx
  have C2 := Lib.hid c2
  clear c2 hx hS
  by_cases h0 : checkE l = 0
  case neg =>
    have h2 : (checkE l == 0) = false := by simpa using h0
    rw [if_neg h0] at HE
    generalize checkE l = CE at *
    have C1 := Lib.hid c1
    clear c1 h0
    go_enter Try.func101, Try.ntmps101
    go_wp2_with fail
    refine C1.out.mono ?_
    rintro e w1 ⟨rfl, hb⟩
    have HB := Lib.hid hb
    clear hb
    go_wp2_with fail
    go_ret
    exact ⟨by rw [HE.out]; rfl, HB.out⟩
  rw [if_pos h0] at HE
  rw [h0] at c1
  have C1 := Lib.hid c1
  clear c1 h0
  have c2 := C2.out
  cases hw : wi c 1 100
  case false =>
    rw [hw] at c2 HE
    have HF : Hid (E = 7) := Lib.hid (by rw [HE.out]; rfl)
    have C2' := Lib.hid c2
    clear c2 C2 hw HE
    go_enter Try.func101, Try.ntmps101
    go_wp2_with fail
    refine C1.out.mono ?_
    rintro e w1 ⟨rfl, hb⟩
    have HB := Lib.hid hb
    clear hb
    go_wp2_with fail
    refine (C2'.out _).mono ?_
    rintro e w2 ⟨rfl, rfl⟩
    go_wp2_with fail
    go_ret
    exact ⟨by rw [HF.out]; rfl, HB.out⟩
  rw [hw, if_pos rfl] at HE
  rw [hw] at c2
  have C2' := Lib.hid c2
  clear c2 C2 hw
  go_enter Try.func101, Try.ntmps101
  go_wp2_with fail
  refine C1.out.mono ?_
  rintro e w1 ⟨rfl, hb⟩
  have HB := Lib.hid hb
  clear hb C1
  go_wp2_with fail
  refine (C2'.out _).mono ?_
  rintro e w2 ⟨rfl, rfl⟩
  clear C2'
  go_wp2_with fail
  go_loopw [6] (fun i W => ∃ k : Nat, k ≤ l.length ∧ i = .int .i64 (k : Int) ∧ Hid (∀ j, j < k → mnA l j ≤ c) ∧ Below w.heap.size w W) (fun i _ => l.length - (intOf i).toNat)
  case atStart => exact ⟨0, Nat.zero_le _, rfl, Lib.hid (fun j hj => absurd hj (by omega)), HB.out⟩
  case round =>
    obtain ⟨k, hk, rfl, hT, hB⟩ := hrel
    by_cases hlt : k < l.length
    · obtain ⟨b, off, rfl, hb0, -, -, hc3, -⟩ := (HX.out.below hB).at_ k hlt
      have hk1 : (k : Int) < l.length := by omega
      have hk2 : ¬ l.length ≤ k := by omega
      by_cases hv : c < (tkA l k).mn
      · have HF : Hid (E = 8) := Lib.hid (by rw [HE.out, if_pos (many1_iff.2 ⟨k, hlt, hv⟩)])
        generalize (tkA l k).mn = Z at *
        have HB2 := Lib.hid hB
        clear hT hB
        go_wp2_with fail
        go_ret
        exact ⟨by rw [HF.out]; rfl, HB2.out⟩
      · have hT2 : Hid (∀ j, j < k + 1 → mnA l j ≤ c) := Lib.hid (fun j hj => if e : j = k then (by rw [e]; exact Int.not_lt.1 hv) else hT.out j (by omega))
        generalize (tkA l k).mn = Z at *
        clear hT
        go_wp2_with fail
        go_roundw
        case rel => exact ⟨k + 1, by omega, by go_num, hT2, hB⟩
        case measure => simp [intOf]; omega
    · have hk1 : ¬ (k : Int) < l.length := by omega
      have HF : Hid (E = 0) := Lib.hid (by
        rw [HE.out, if_neg]
        intro hq
        obtain ⟨i, hi, h2⟩ := many1_iff.1 hq
        exact absurd h2 (Int.not_lt.2 (hT.out i (by omega))))
      have HB2 := Lib.hid hB
      clear hT hB
      go_wp2_with fail
      go_ret
      exact ⟨by rw [HF.out]; rfl, HB2.out⟩
end Go.Proofs.Ytgijekhlbkfanaa

namespace Go.Proofs.Ytgijekhlbkfanaa

theorem Lst.ear {l : List Tk} {most : Int} {out : List Int} (hP : okP l) (h : Lst l most out) : ∀ i, i < l.length → gI (ear l) i ≤ gI out i :=
  ord_ind hP fun i hi ih => by
    rcases ear_some hP hi with h1 | ⟨a, ha, h1⟩
    · have := (h.pos i hi).1; omega
    · have := ih a ha; have := h.aft i hi a ha; omega
theorem Lst.len_le {l : List Tk} {most : Int} {out : List Int} (hP : okP l) (h : Lst l most out) : lenV l ≤ endsV l out := by
  rcases (ends_spec l (Go.Proofs.Ytgijekhlbkfanaa.ear l)).2.2 with h1 | ⟨i, hi, h1⟩
  · have := (ends_spec l out).1
    unfold lenV; omega
  · have h2 := h.ear hP i hi
    have h3 := (ends_spec l out).2.1 i hi
    unfold lenV; omega
theorem Lst.ends_le {l : List Tk} {most : Int} {out : List Int} (hP : okP l) (h : Lst l most out) : endsV l out ≤ totD l := by
  have h0 := (ends_spec l out).1
  have := busy_days hP (out := out) (D := (endsV l out).toNat) (fun j hj => (h.pos j hj).1) fun e he => by
    have h1 := h.busy e (by omega) (by omega)
    apply Classical.byContradiction
    intro hno
    have : menV l out e = 0 := sN_zero fun k hk => by
      try dsimp only
      rw [if_neg (fun hh => hno ⟨k, hk, hh.1, hh.2⟩)]
    omega
  omega
def wrkV (l : List Tk) : Int := sN (fun k => mnA l k * dyA l k) l.length
theorem Lst.sum {l : List Tk} {most : Int} {out : List Int} (hP : okP l) (h : Lst l most out) : sN (fun e => menV l out (e : Int)) (endsV l out).toNat = wrkV l := by
  have h0 := (ends_spec l out).1
  unfold menV wrkV
  rw [← sN_swap]
  refine sN_congr fun k hk => ?_
  have h1 := (ends_spec l out).2.1 k hk
  have h2 := (dy_bd hP hk).1
  exact sN_stretch (c := mnA l k) (h.pos k hk).1 (by omega) _ (by omega)
theorem Lst.wrk_le {l : List Tk} {most : Int} {out : List Int} (hP : okP l) (h : Lst l most out) : wrkV l ≤ endsV l out * most := by
  have h0 := (ends_spec l out).1
  rw [← h.sum hP]
  have : sN (fun _ => most) (endsV l out).toNat = endsV l out * most := by
    have : ∀ n : Nat, sN (fun _ => most) n = n * most := fun n => by
      induction n with
      | zero => show (0 : Int) = ((0 : Nat) : Int) * most; simp
      | succ n ih =>
        show sN _ n + most = _
        rw [ih, show ((n + 1 : Nat) : Int) = (n : Int) + 1 by omega, Int.add_mul, Int.one_mul]
    rw [this, show (((endsV l out).toNat : Nat) : Int) = endsV l out by omega]
  rw [← this]
  exact sN_le fun e _ => h.crew e
theorem wrk_pos {l : List Tk} (hP : okP l) : 0 ≤ wrkV l := sN_nonneg fun k hk => by
  try dsimp only
  exact Int.mul_nonneg (by have := (mnA_bd hP hk).1; omega) (by have := (dy_bd hP hk).1; omega)
def ceilV (l : List Tk) (most : Int) : Int := (wrkV l + most - 1) / most
theorem Lst.ceil_le {l : List Tk} {most : Int} {out : List Int} (hP : okP l) (h : Lst l most out) (hm : 1 ≤ most) : ceilV l most ≤ endsV l out := by
  have h1 := h.wrk_le hP
  unfold ceilV
  have h2 : (wrkV l + most - 1) / most < endsV l out + 1 := by
    rw [Int.ediv_lt_iff_lt_mul (by omega), Int.add_mul]
    omega
  omega
/-- The days until all have begun. -/
theorem sch_first {l : List Tk} {most : Int} (hP : okP l) (hm : ∀ i, i < l.length → mnA l i ≤ most) : ∃ D, (∀ d, d ≤ D → Run l most d) ∧ (∀ d, d < D → (schK l most (trn l) d).2.length < l.length) ∧ ¬ (schK l most (trn l) D).2.length < l.length := by
  apply Classical.byContradiction
  intro hno
  have key : ∀ d, (∀ e, e ≤ d → Run l most e) ∧ ∀ e, e < d → (schK l most (trn l) e).2.length < l.length := by
    intro d
    induction d with
    | zero => exact ⟨fun e he => by rw [show e = 0 by omega]; exact Run.zeroth l most, fun e he => by omega⟩
    | succ d ih =>
      have hd : (schK l most (trn l) d).2.length < l.length := Classical.byContradiction fun hh => hno ⟨d, ih.1, ih.2, hh⟩
      refine ⟨fun e he => ?_, fun e he => ?_⟩
      · by_cases h : e = d + 1
        · rw [h]; exact (ih.1 d (Nat.le_refl _)).next hP hm hd
        · exact ih.1 e (by omega)
      · by_cases h : e = d
        · rw [h]; exact hd
        · exact ih.2 e (by omega)
  have := ((key ((totD l).toNat + 1)).1 _ (Nat.le_refl _)).bd hP
  omega
theorem Run.day {l : List Tk} {most : Int} {d : Nat} (hP : okP l) (hm : ∀ i, i < l.length → mnA l i ≤ most) (h : Run l most d) : Day l most d (schK l most (trn l) d) (trn l) (schK l most (trn l) (d + 1)) := by
  have hm0 : 0 ≤ most := by have := hm 0 hP.pos; have := (mnA_bd hP hP.pos).1; omega
  exact Day.all hP (trn_is hP) h.inv h.inv2 hm0
theorem sch_pers {l : List Tk} {most : Int} (hP : okP l) (hm : ∀ i, i < l.length → mnA l i ≤ most) {e : Nat} : ∀ m, (∀ d, d ≤ e + m → Run l most d) → (∀ i ∈ (schK l most (trn l) e).2, i ∈ (schK l most (trn l) (e + m)).2 ∧ gI (schK l most (trn l) (e + m)).1 i = gI (schK l most (trn l) e).1 i) ∧
    ∀ i ∈ (schK l most (trn l) (e + m)).2, i ∉ (schK l most (trn l) e).2 → (e : Int) ≤ gI (schK l most (trn l) (e + m)).1 i
  | 0, _ => ⟨fun i hi => ⟨hi, rfl⟩, fun i hi hn => absurd hi hn⟩
  | m + 1, hr => by
    obtain ⟨h1, h2⟩ := sch_pers hP hm (e := e) m fun d hd => hr d (by omega)
    have hD := (hr (e + m) (by omega)).day hP hm
    refine ⟨fun i hi => ?_, fun i hi hn => ?_⟩
    · obtain ⟨h3, h4⟩ := h1 i hi
      exact ⟨hD.old i h3, (hD.keep i (.inr h3)).trans h4⟩
    · by_cases h5 : i ∈ (schK l most (trn l) (e + m)).2
      · have := h2 i h5 hn
        rw [show e + (m + 1) = e + m + 1 by omega, hD.keep i (.inr h5)]; exact this
      · have := (hD.new i hi h5).2.1
        rw [show e + (m + 1) = e + m + 1 by omega, this]; omega
theorem runL_le_all {l : List Tk} (hP : okP l) (out : List Int) (B : List Nat) (d : Int) : runL l out B d ≤ sN (mnA l) l.length := sN_le fun k hk => by
  have := (mnA_bd hP hk).1
  unfold rnF; split <;> omega
theorem LST_ample {l : List Tk} {most : Int} (hP : okP l) (hm : sN (mnA l) l.length ≤ most) : LST l most = ear l := by
  have hme : ∀ i, i < l.length → mnA l i ≤ most := fun i hi => Int.le_trans (sN_one (mnA l) hi fun k hk => by have := (mnA_bd hP hk).1; omega) hm
  have hL := LST_is hP hme
  have hlow := hL.ear hP
  obtain ⟨D, hR, hin, hf⟩ := sch_first hP hme
  rw [← sch_done hP (hR D (Nat.le_refl _)) hf] at hL hlow ⊢
  have hfull := fun i (hi : i < l.length) => (hR D (Nat.le_refl _)).inv.full hf hi
  refine gI_ext (by rw [hL.len, ear_len]) fun i hi => ?_
  rw [hL.len] at hi
  revert i
  refine ord_ind hP fun i hi ih => ?_
  apply Classical.byContradiction
  intro hne
  have h1 := hlow i hi
  have h2 := ((hR D (Nat.le_refl _)).inv.early i (hfull i hi)).2
  obtain ⟨e, he⟩ : ∃ e : Nat, (e : Int) = gI (ear l) i := ⟨(gI (ear l) i).toNat, by have := ear_pos hP i; omega⟩
  have heD : e < D := by omega
  obtain ⟨m, hmm⟩ : ∃ m, D = e + m := ⟨D - e, by omega⟩
  have hp := sch_pers hP hme (e := e) m fun d hd => hR d (by omega)
  rw [← hmm] at hp
  have hRe := hR e (by omega)
  have hie : i ∉ (schK l most (trn l) e).2 := fun hh => by
    have h3 := (hp.1 i hh).2
    have h4 := (hRe.inv.early i hh).2
    omega
  have hae : ∀ a ∈ afs l i, a ∈ (schK l most (trn l) e).2 ∧ gI (schK l most (trn l) e).1 a + dyA l a ≤ e := fun a ha => by
    have hal := afs_lt hP hi ha
    have h3 := ear_le hP hi ha
    have h4 := ih a ha
    have h5 := (dy_bd hP hal).1
    have h6 : a ∈ (schK l most (trn l) e).2 := Classical.byContradiction fun hh => by
      have := hp.2 a (hfull a hal) hh; omega
    refine ⟨h6, ?_⟩
    rw [← (hp.1 a h6).2]; omega
  have hT := trn_is hP
  have hm0 : 0 ≤ most := by have := hme i hi; have := (mnA_bd hP hi).1; omega
  have hnow : i ∈ (schK l most (trn l) (e + 1)).2 := by
    obtain ⟨pre, post, hsp⟩ := List.append_of_mem ((hT.mem i).2 hi)
    have hnd := hT.nd
    rw [hsp] at hnd
    have hDp := Day.fold (post := pre) (pre := []) (most := most) (d := e) (s := schK l most (trn l) e) (t := schK l most (trn l) e) hP hRe.inv.len (by simpa using (List.nodup_append.1 hnd).1) (fun j hj => (hT.mem j).1 (by rw [hsp]; exact List.mem_append_left _ hj)) (Day.begin hP hRe.inv hRe.inv2 hm0)
    rw [List.nil_append] at hDp
    generalize hq : pre.foldl (stR l most e) (schK l most (trn l) e) = q at hDp
    have hfin : schK l most (trn l) (e + 1) = post.foldl (stR l most e) (stR l most e q i) := by
      show dayR l most (trn l) e (schK l most (trn l) e) = _
      unfold dayR
      conv => lhs; arg 3; rw [hsp]
      rw [List.foldl_append, hq]; rfl
    rw [hfin]
    apply fold_grow
    have hip : i ∉ pre := fun hh => (List.nodup_append.1 hnd).2.2 i hh i (List.mem_cons_self ..) rfl
    have hr : rdD l q.1 q.2 e i = true := by
      rw [hDp.rd hP hi hip, rdD_iff]
      exact ⟨hie, hae⟩
    have hni : i ∉ q.2 := (rdD_iff.1 hr).1
    have h6 := runL_add hP (out := q.1) (B := q.2) (d := e) (i := i) (by rw [hDp.len]; exact hRe.inv.len) hi hni
    have h7 := runL_le_all hP (q.1.set i e) (q.2 ++ [i]) e
    unfold stR
    rw [if_pos (by rw [hr]; simp; omega)]
    simp
  have h8 := (hRe.day hP hme).new i hnow hie
  obtain ⟨m2, hm2⟩ : ∃ m2, D = e + 1 + m2 := ⟨D - e - 1, by omega⟩
  have hp2 := sch_pers hP hme (e := e + 1) m2 fun d hd => hR d (by omega)
  rw [← hm2] at hp2
  have h9 := (hp2.1 i hnow).2
  rw [h8.2.1] at h9
  omega
end Go.Proofs.Ytgijekhlbkfanaa

namespace Go.Proofs.Ytgijekhlbkfanaa
open Go.RowKit
attribute [local go_sem] Later.cell Same.cell

/-- A slice that does not lie in block g. -/
def NB (A : Option Addr) (g : Nat) : Prop := ∀ b off, A = some ⟨b, off, none⟩ → b ≠ g
theorem NB.of_own {A : Option Addr} {g base n : Nat} {cap : Nat} {xs : List Int} {w : World} {e : TypeId} (h : w.ownsRow base e 1 (.slice A n cap) n (icells xs)) (hg : g < base) : NB A g := fun b off he => by
  intro hb
  subst he
  rcases h.2 with ⟨h', _⟩ | ⟨g', cap', cur, h', hb', hg', _⟩
  · simp at h'
  · simp only [Value.slice.injEq, Option.some.injEq, Addr.mk.injEq, and_true, true_and] at h'
    omega
theorem Ints.store {w : World} {A : Option Addr} {n : Nat} {xs : List Int} {g : Nat} (h : Ints w w.heap.size A n xs) (hn : NB A g) (i : Nat) (v : Value) : Ints (w.setCell ⟨g, i, none⟩ v) (w.setCell ⟨g, i, none⟩ v).heap.size A n xs := by
  rw [World.size_setCell]
  exact h.keep hn fun q _ hq => Below.heap_setCell _ ⟨g, i, none⟩ v q hq
theorem Ints.go {w w' : World} {A : Option Addr} {n : Nat} {xs : List Int} (h : Ints w w.heap.size A n xs) (hb : Below w.heap.size w w') : Ints w' w'.heap.size A n xs := (h.below hb).more hb.size
structure RaR (l : List Tk) (w : World) (g : Nat) (A1 : Option Addr) (out : List Int) (W : World) : Prop where
  own : W.ownsRow w.heap.size 3 1 (.slice (some ⟨g, 0, none⟩) l.length l.length) l.length (icells out)
  ord : Ints W W.heap.size A1 l.length (iN (ord l))
  bel : Below w.heap.size w W
theorem RaR.store {l : List Tk} {w : World} {g : Nat} {A1 : Option Addr} {out : List Int} {W : World} (h : RaR l w g A1 out W) (hn : NB A1 g) (i : Nat) (v : Int) : RaR l w g A1 (out.set i v) (W.setCell ⟨g, i, none⟩ (.int .i64 v)) :=
  ⟨(jown_store h.own i v).1, h.ord.store hn i _, h.bel.setCell (p := ⟨g, i, none⟩) (jown_at h.own).2.1 _⟩
theorem RaR.later {l : List Tk} {w : World} {g : Nat} {A1 : Option Addr} {out : List Int} {W W' : World} (h : RaR l w g A1 out W) (hb : Below W.heap.size W W') : RaR l w g A1 out W' :=
  ⟨jown_later h.own hb, h.ord.go hb, h.bel.trans (hb.mono h.bel.size)⟩
theorem set_same (xs : List Int) (i : Nat) (h : i < xs.length) : xs.set i (gI xs i) = xs := by
  unfold gI; rw [List.getElem?_eq_getElem h]; simp
set_option maxRecDepth 20000 in
set_option maxHeartbeats 16000000 in
theorem rearliest_any (A : Option Addr) (len cap : Nat) (l : List Tk) (w : World) (hS : Sml l) (hP : okP l) (hx : Plan w w.heap.size A len l) :
    Calls Try.prog 76 #[.slice A len cap] w fun e w' => (∃ v, e = .returned v ∧ w'.ownsRow w.heap.size 3 1 v len (icells (ear l))) ∧ Below w.heap.size w w' := by
  obtain rfl : l.length = len := hx.1
  have c2 := fun i W (h : Below w.heap.size w W) (hi : i < l.length) => afters_any A l.length cap l i W (by have := hP.len; omega) hi (by have := hP.few i hi; omega) (hx.go h)
  have haz : ∀ i, i < l.length → afZ l i = iN (afs l i) := fun i hi => afZ_afs (hP.known i hi)
  have c5 := fun W (h : Below w.heap.size w W) => rorder_any A l.length cap l W (by have := hP.len; omega) hP.names (fun i hi => by have := hP.few i hi; omega) (hx.go h)
  obtain ⟨j0, hj, hy0, hy1, hy2⟩ := info_parts jinfo_int
  have hI0 := Lib.hid hj
  have hI1 := Lib.hid hy0
  have hI2 := Lib.hid hy1
  have hI3 := Lib.hid hy2
  have hL := hP.len
  have C2 := Lib.hid c2
  have C5 := Lib.hid c5
  have HAZ := Lib.hid haz
  have HX := Lib.hid hx
  have HP := Lib.hid hP
  clear c2 c5 hx hS hP hj hy0 hy1 hy2 haz
  go_enter Try.func76, Try.ntmps76
  go_wp2_with (at_make; refine wpList_make_full _ rfl _ _ 32 rfl w.heap.size 3 j0 (.int .i64 0) 1 Try.underlying32 hI0.out hI1.out hI2.out _ _ _ _ l.length rfl rfl (by omega) (by omega) (by rw [hI3.out]; omega) (by unfold maxLen; omega) (Nat.le_refl _) ?_; intro w2 hown hgrow; go_frame)
  rw [jmade1] at hown
  have hB2 : Below w.heap.size w w2 := grown_below hgrow (Nat.le_refl _) (fun k hk => by cases hk)
  have HOW := Lib.hid hown
  have hg0 : w.heap.size < w2.heap.size := (jown_at hown).1
  have HB2 := Lib.hid hB2
  clear hown hgrow hB2
  refine (C5.out _ HB2.out).mono ?_
  rintro e w3 ⟨⟨v, rfl, ho⟩, hb⟩
  obtain ⟨A1, cap1, rfl, hq1, hq2, hI, -⟩ := own_ints ho
  have hol : (ord l).length = l.length := HP.out.all
  rw [hol] at ho hI hq1 ⊢
  have HNB := Lib.hid (NB.of_own ho hg0)
  have HE : Hid (RaR l w w.heap.size A1 (earK l 0) w3) := Lib.hid ⟨by rw [earK_zero]; exact jown_later HOW.out hb, hI, HB2.out.trans (hb.mono HB2.out.size)⟩
  clear ho hb HOW HB2 hI
  go_wp2
  go_loopw [5] (fun i W => ∃ k : Nat, k ≤ l.length ∧ i = .int .i64 k ∧ Hid (RaR l w w.heap.size A1 (earK l k) W)) (fun i _ => l.length - (intOf i).toNat)
  case atStart => exact ⟨0, Nat.zero_le _, rfl, HE⟩
  case round =>
    obtain ⟨k, hk, rfl, HE⟩ := hrel
    have hbw := HE.out.bel
    by_cases hlt : k < l.length
    · have hko : k < (ord l).length := by omega
      have hil := ord_lt (List.getElem_mem hko)
      obtain ⟨b5, off5, rfl, hb5, hc5⟩ := HE.out.ord.at_ k hlt
      change wr.cell? _ = some (.int .i64 (gI (iN (ord l)) k)) at hc5
      rw [iN_at hko] at hc5
      have hbd := fun j (hj : j ≤ 10) => earKJ_bd HP.out hko hj
      have hfew := HP.out.few _ hil
      have hEn := fun j (h : j < (afs l (ord l)[k]).length) => (earJ_next (l := l) (i := (ord l)[k]) (out := earK l k) (j := j) h)
      have hEl := fun j => (earJ_len l (ord l)[k] (earK l k) j).trans (earK_len l k)
      have hEe := earJ_end (l := l) (i := (ord l)[k]) (out := earK l k) (j := (afs l (ord l)[k]).length) (Nat.le_refl _)
      have hKn := earK_next hko
      have hEz := earJ_zero l (ord l)[k] (earK l k)
      have c3 := C2.out _ wr hbw hil
      rw [HAZ.out _ hil, iN_len] at c3
      have hal := afs_len l (ord l)[k]
      generalize hio : (ord l)[k] = i at *
      have HIO := Lib.hid hio
      have HBD := Lib.hid hbd
      have HEN := Lib.hid hEn
      have HEL := Lib.hid hEl
      have HEE := Lib.hid hEe
      have HKX := Lib.hid hKn
      have C3 := Lib.hid c3
      have HE0 : Hid (RaR l w w.heap.size (some ⟨b5, off5, none⟩) (earJ l i (earK l k) 0) wr) := Lib.hid (by rw [hEz]; exact HE.out)
      have hbs := hbw.size
      have hk1 : (k : Int) < l.length := by omega
      have hk2 : ¬ l.length ≤ k := by omega
      have hm10 : (afs l i).length ≤ 10 := by omega
      have hgs := (jown_at HE.out.own).1
      clear hbd hEn hEl hEe hKn hEz HE hio c3 hal hfew
      go_wp2_with fail
      refine C3.out.mono ?_
      rintro e w4 ⟨⟨v4, rfl, ho4⟩, hb4⟩
      obtain ⟨A4, cap4, rfl, hq4, hq5, hI4, -⟩ := own_ints ho4
      have HNB4 := Lib.hid (NB.of_own ho4 hgs)
      have HE1 := Lib.hid (HE0.out.later hb4)
      have HI4 := Lib.hid hI4
      clear ho4 hI4 HE0 hc5 hb5 C3 hb4
      go_wp2
      go_loopw [7] (fun i' W => ∃ j : Nat, j ≤ (afs l i).length ∧ i' = .int .i64 j ∧ Hid (RaR l w w.heap.size (some ⟨b5, off5, none⟩) (earJ l i (earK l k) j) W) ∧ Hid (Ints W W.heap.size A4 (afs l i).length (iN (afs l i)))) (fun i' _ => (afs l i).length - (intOf i').toNat)
      case atStart => exact ⟨0, Nat.zero_le _, rfl, HE1, HI4⟩
      case round =>
        obtain ⟨j, hj, rfl, HE, HA⟩ := hrel
        by_cases hlj : j < (afs l i).length
        · have hbw3 := HE.out.bel
          have hbs3 := hbw3.size
          have hFl := afs_lt HP.out hil (List.getElem_mem hlj)
          have hnx := HEN.out j hlj
          obtain ⟨b2, off2, rfl, hb2, hc6⟩ := HA.out.at_ j hlj
          change wr.cell? _ = some (.int .i64 (gI (iN (afs l i)) j)) at hc6
          rw [iN_at hlj] at hc6
          obtain ⟨b6, off6, he6, hb6, hc7⟩ := HE.out.ord.at_ k hlt
          injection he6 with he6
          injection he6 with he61 he62
          subst he61 he62
          change wr.cell? _ = some (.int .i64 (gI (iN (ord l)) k)) at hc7
          rw [iN_at hko] at hc7
          generalize hFe : (afs l i)[j] = F at *
          obtain ⟨b7, off7, he7, hb7, d1, d2, d3, -⟩ := (HX.out.below hbw3).at_ F hFl
          subst he7
          have hbd := HBD.out j (by omega)
          have hda := dy_bd HP.out hFl
          change 1 ≤ (tkA l F).dy ∧ (tkA l F).dy ≤ 1000 at hda
          obtain ⟨hgs3, hgb, hgc, hgf⟩ := jown_at HE.out.own
          have hci := hgc i hil
          have hca := hgc F hFl
          have hfi := hgf i
          rw [HIO.out] at hc7
          have hbi := hbd i
          have hba := hbd F
          have hel := HEL.out j
          have HSE := Lib.hid (fun v => HE.out.store HNB.out i v)
          have HSA := Lib.hid (fun v : Int => HA.out.store HNB4.out i (.int .i64 v))
          unfold earS dyA imax at hnx
          have HSM := Lib.hid (set_same (earJ l i (earK l k) j) i (by omega))
          generalize hQ : earJ l i (earK l k) j = Q at *
          generalize hQn : earJ l i (earK l k) (j + 1) = Qn at *
          generalize (tkA l F).dy = Y at *
          generalize gI Q i = Gi at *
          generalize gI Q F = Ga at *
          have HQN := Lib.hid hQn
          have hF1 : (F : Int) < l.length := by omega
          have hF2 : ¬ l.length ≤ F := by omega
          have hi1 : (i : Int) < l.length := by omega
          have hi2 : ¬ l.length ≤ i := by omega
          have hj1 : (j : Int) < (afs l i).length := by omega
          have hj2 : ¬ (afs l i).length ≤ j := by omega
          have hb1 : b7 < wr.heap.size := by omega
          have hwr : wrap64 (Ga + Y) = Ga + Y := IntWalk.wrap64_in _ ⟨by omega, by omega⟩
          have hwg : w.heap.size < wr.heap.size := hgs3
          have HE' := Lib.hid HE.out
          have HAA := Lib.hid HA.out
          have hb56 : b5 < wr.heap.size := hb6
          by_cases hc : Gi < Ga + Y
          · rw [if_pos hc] at hnx
            have HNX := Lib.hid hnx
            clear hnx hbd hgc hgf hQ hQn hFe d1 d3 HE HA HSE HSA HSM hel hbi hba
            go_wp2
            (refine wp_region_later (by kernel_rfl) (by kernel_rfl) ?_; (repeat (go_big_quiet_step ((fail)))); refine wpQuiet_nil ?_)
            intro w9 hb9
            have hc8 : w9.cell? ⟨w.heap.size, i, none⟩ = some (.int .i64 Gi) := (hb9.cell (p := ⟨w.heap.size, i, none⟩) hwg).trans hci
            have hf8 : w9.frozen? ⟨w.heap.size, i, none⟩ = false := (hb9.frozen (p := ⟨w.heap.size, i, none⟩) hwg).trans hfi
            have hc9 : w9.cell? ⟨b5, off5 + k, none⟩ = some (.int .i64 (i : Int)) := (hb9.cell (p := ⟨b5, off5 + k, none⟩) hb56).trans hc7
            have HST := Lib.hid ((HE'.out.later hb9).store HNB.out i (Ga + Y))
            rw [← HNX.out] at HST
            have HSB := Lib.hid ((HAA.out.go hb9).store HNB4.out i (.int .i64 (Ga + Y)))
            rw [hwr]
            clear hb9 HE' HAA hci hfi hc7 hca hc6
            go_wp2
            go_roundw
            case rel => exact ⟨j + 1, by omega, by go_num, by rw [HQN.out]; exact HST, HSB⟩
            case measure => simp [intOf]; omega
          · rw [if_neg hc] at hnx
            have hqq : Q = Qn := by rw [← HSM.out, hnx]
            have HST := Lib.hid (show RaR l w w.heap.size (some ⟨b5, off5, none⟩) Qn wr by rw [← hqq]; exact HE'.out)
            clear hnx hbd hgc hgf hQ hQn hFe d1 d3 HE HA HSE HSA HSM HE' hel hbi hba hqq
            go_wp2
            (refine wp_region_later (by kernel_rfl) (by kernel_rfl) ?_; (repeat (go_big_quiet_step ((fail)))); refine wpQuiet_nil ?_)
            intro w9 hb9
            have hc8 : w9.cell? ⟨w.heap.size, i, none⟩ = some (.int .i64 Gi) := (hb9.cell (p := ⟨w.heap.size, i, none⟩) hwg).trans hci
            have hc9 : w9.cell? ⟨b5, off5 + k, none⟩ = some (.int .i64 (i : Int)) := (hb9.cell (p := ⟨b5, off5 + k, none⟩) hb56).trans hc7
            have HS9 := Lib.hid (HST.out.later hb9)
            have HA9 := Lib.hid (HAA.out.go hb9)
            rw [hwr]
            clear hb9 HST HAA hci hfi hc7 hca hc6
            go_wp2
            go_roundw
            case rel => exact ⟨j + 1, by omega, by go_num, by rw [HQN.out]; exact HS9, HA9⟩
            case measure => simp [intOf]; omega
        · have hjn : j = (afs l i).length := by omega
          have hj1 : ¬ (j : Int) < (afs l i).length := by omega
          have HF : Hid (RaR l w w.heap.size (some ⟨b5, off5, none⟩) (earK l (k + 1)) wr) := Lib.hid (by rw [HKX.out, ← HEE.out, ← hjn]; exact HE.out)
          clear HE HA
          go_wp2
          go_roundw
          case rel => exact ⟨k + 1, by omega, by go_num, HF⟩
          case measure => simp [intOf]; omega
    · have hkl : k = l.length := by omega
      have hk1 : ¬ (k : Int) < l.length := by omega
      have HF : Hid (RaR l w w.heap.size A1 (ear l) wr) := Lib.hid (by rw [← earK_end (l := l) (k := k) (by omega)]; exact HE.out)
      clear HE
      go_wp2
      go_ret
      exact ⟨⟨_, rfl, HF.out.own⟩, HF.out.bel⟩
end Go.Proofs.Ytgijekhlbkfanaa

namespace Go.Proofs.Ytgijekhlbkfanaa
open Go.RowKit
attribute [local go_sem] Later.cell Same.cell

set_option maxRecDepth 20000 in
set_option maxHeartbeats 16000000 in
theorem rlatest_any (A : Option Addr) (len cap : Nat) (l : List Tk) (w : World) (hS : Sml l) (hP : okP l) (hx : Plan w w.heap.size A len l) :
    Calls Try.prog 77 #[.slice A len cap] w fun e w' => (∃ v, e = .returned v ∧ w'.ownsRow w.heap.size 3 1 v len (icells (latR l))) ∧ Below w.heap.size w w' := by
  obtain rfl : l.length = len := hx.1
  have c2 := fun i W (h : Below w.heap.size w W) (hi : i < l.length) => afters_any A l.length cap l i W (by have := hP.len; omega) hi (by have := hP.few i hi; omega) (hx.go h)
  have haz : ∀ i, i < l.length → afZ l i = iN (afs l i) := fun i hi => afZ_afs (hP.known i hi)
  have c5 := fun W (h : Below w.heap.size w W) => rorder_any A l.length cap l W (by have := hP.len; omega) hP.names (fun i hi => by have := hP.few i hi; omega) (hx.go h)
  have c6 := fun W (h : Below w.heap.size w W) => rearliest_any A l.length cap l W hS hP (hx.go h)
  have c7 := fun A' cap' W (h : Below w.heap.size w W) (hy : Ints W W.heap.size A' l.length (ear l)) => rends_any A l.length cap l A' cap' (ear l) W hP (hx.go h) hy (ear_bdE hP)
  change ∀ A' cap' W _ _, Calls _ _ _ _ (fun e w' => e = .returned (.int .i64 (lenV l)) ∧ _) at c7
  have c8 := fun A n cap xs q W (hn : n ≤ 9223372036854775807) (h : Ints W W.heap.size A n xs) => has_any A n cap xs q W hn h
  obtain ⟨j0, hj, hy0, hy1, hy2⟩ := info_parts jinfo_int
  have hI0 := Lib.hid hj
  have hI1 := Lib.hid hy0
  have hI2 := Lib.hid hy1
  have hI3 := Lib.hid hy2
  have hL := hP.len
  have hlb := lenV_bd hP
  have C2 := Lib.hid c2
  have C5 := Lib.hid c5
  have C6 := Lib.hid c6
  have C7 := Lib.hid c7
  have C8 := Lib.hid c8
  have HAZ := Lib.hid haz
  have HX := Lib.hid hx
  have HP := Lib.hid hP
  clear c2 c5 c6 c7 c8 hx hS hP hj hy0 hy1 hy2 haz
  go_enter Try.func77, Try.ntmps77
  go_wp2_with (at_make; refine wpList_make_full _ rfl _ _ 32 rfl w.heap.size 3 j0 (.int .i64 0) 1 Try.underlying32 hI0.out hI1.out hI2.out _ _ _ _ l.length rfl rfl (by omega) (by omega) (by rw [hI3.out]; omega) (by unfold maxLen; omega) (Nat.le_refl _) ?_; intro w2 hown hgrow; go_frame)
  rw [jmade1] at hown
  have hB2 : Below w.heap.size w w2 := grown_below hgrow (Nat.le_refl _) (fun k hk => by cases hk)
  have HOW := Lib.hid hown
  have hg0 : w.heap.size < w2.heap.size := (jown_at hown).1
  have HB2 := Lib.hid hB2
  clear hown hgrow hB2
  refine (C5.out _ HB2.out).mono ?_
  rintro e w3 ⟨⟨v, rfl, ho⟩, hb⟩
  obtain ⟨A1, cap1, rfl, hq1, hq2, hI, -⟩ := own_ints ho
  have hol : (ord l).length = l.length := HP.out.all
  have hrl : (ord l).reverse.length = l.length := by rw [List.length_reverse]; exact hol
  rw [hol] at ho hI hq1 ⊢
  have HNB := Lib.hid (NB.of_own ho hg0)
  have HE3 : Hid (RaR l w w.heap.size A1 (latRK l 0) w3) := Lib.hid ⟨jown_later HOW.out hb, hI, HB2.out.trans (hb.mono HB2.out.size)⟩
  clear ho hb HOW HB2 hI
  go_wp2_with fail
  refine (C6.out _ HE3.out.bel).mono ?_
  rintro e w4 ⟨⟨v4, rfl, ho4⟩, hb4⟩
  obtain ⟨A4, cap4, rfl, hq4, hq5, hI4, -⟩ := own_ints ho4
  have HE4 := Lib.hid (HE3.out.later hb4)
  clear ho4 hb4 HE3
  go_wp2_with fail
  refine (C7.out A4 cap4 _ HE4.out.bel hI4).mono ?_
  rintro e w5 ⟨rfl, hb5⟩
  have HE := Lib.hid (HE4.out.later hb5)
  clear hI4 hb5 HE4
  go_wp2
  go_loopw [6] (fun i W => ∃ q : Nat, q ≤ l.length ∧ i = .int .i64 ((l.length : Int) - 1 - q) ∧ Hid (RaR l w w.heap.size A1 (latRK l q) W)) (fun i _ => ((intOf i) + 1).toNat)
  case atStart => exact ⟨0, Nat.zero_le _, by simp, HE⟩
  case round =>
    clear HE
    obtain ⟨q, hq, rfl, HE⟩ := hrel
    have hbw := HE.out.bel
    by_cases hlt : q < l.length
    · have hqo : q < (ord l).reverse.length := by omega
      obtain ⟨k, hk⟩ : ∃ k : Nat, k = l.length - 1 - q := ⟨_, rfl⟩
      have hkI : (l.length : Int) - 1 - q = (k : Int) := by omega
      have hkl : k < l.length := by omega
      have hko : k < (ord l).length := by omega
      have hio : (ord l).reverse[q] = (ord l)[k] := by
        rw [List.getElem_reverse]
        congr 1
        omega
      have hil : (ord l)[k] < l.length := ord_lt (List.getElem_mem hko)
      obtain ⟨b5, off5, rfl, hb5, hc5⟩ := HE.out.ord.at_ k hkl
      change wr.cell? _ = some (.int .i64 (gI (iN (ord l)) k)) at hc5
      rw [iN_at hko] at hc5
      have hbd := latRK_bd HP.out q
      have hnx := latRK_next hqo
      rw [hio] at hnx
      have hen := fun j => endR_next l (latRK l q) (ord l)[k] j
      have heb := fun j => endR_bd HP.out (out := latRK l q) (m := 202000 + 1000 * q) (by omega) hbd (ord l)[k] j
      have he0 : endR l (latRK l q) (ord l)[k] 0 = lenV l := rfl
      unfold latRI at hnx
      generalize hio2 : (ord l)[k] = i at *
      generalize hQ : latRK l q = Q at *
      generalize hQn : latRK l (q + 1) = Qn at *
      have HQN := Lib.hid hQn
      have HEN := Lib.hid hen
      have HEB := Lib.hid heb
      have HNX := Lib.hid hnx
      have HBD := Lib.hid hbd
      have hbs := hbw.size
      have hkk : (k : Int) < l.length := by omega
      have hkk2 : ¬ l.length ≤ k := by omega
      have hi1 : (i : Int) < l.length := by omega
      have hi2 : ¬ l.length ≤ i := by omega
      have HEH := Lib.hid HE.out
      have hgs := (jown_at HE.out.own).1
      have hii : -1 < (k : Int) := by omega
      rw [hkI]
      rw [← he0]
      have HKK := Lib.hid hk
      clear hk hkI
      clear hen heb hnx hbd hio hio2 hQ hQn HE he0
      go_wp2
      obtain ⟨W0, hW0⟩ : ∃ W0, W0 = wr := ⟨_, rfl⟩
      subst hW0
      go_loopw [8, 9] (fun v j' W => ∃ j : Nat, j ≤ l.length ∧ j' = .int .i64 j ∧ v = .int .i64 (endR l Q i j) ∧ Below W0.heap.size W0 W) (fun _ j' _ => l.length - (intOf j').toNat)
      case atStart => exact ⟨0, Nat.zero_le _, rfl, rfl, Below.refl _ _⟩
      case round =>
        obtain ⟨j, hj, rfl, rfl, hb⟩ := hrel
        have hbw2 : Below w.heap.size w wr := hbw.trans (hb.mono hbs)
        have hE2 := HEH.out.later hb
        by_cases hlj : j < l.length
        · have c9 := C2.out j wr hbw2 hlj
          rw [HAZ.out j hlj, iN_len] at c9
          have C9 := Lib.hid c9
          have hnx := HEN.out j
          have heb := HEB.out j
          obtain ⟨hgs3, hgb, hgc, hgf⟩ := jown_at hE2.own
          have hcj := hgc j hlj
          have hbj := HBD.out j
          generalize hE2e : endR l Q i (j + 1) = E2 at *
          have HE2 := Lib.hid hE2e
          clear hE2e
          generalize endR l Q i j = E1 at *
          generalize gI Q j = G at *
          have hj1 : (j : Int) < l.length := by omega
          have hj2 : ¬ l.length ≤ j := by omega
          have hm10 : (afs l j).length ≤ 10 := by rw [afs_len]; exact HP.out.few j hlj
          have hws := hb.size
          have HB := Lib.hid hb
          clear c9 hgc hgf hE2 hb
          go_wp2_with fail
          refine C9.out.mono ?_
          rintro e w6 ⟨⟨v6, rfl, ho6⟩, hb6⟩
          obtain ⟨A6, cap6, rfl, hq6, hq7, hI6, -⟩ := own_ints ho6
          have c10 := C8.out A6 (afs l j).length cap6 (iN (afs l j)) (i : Int) w6 (by omega) hI6
          rw [iN_contains] at c10
          have hc6 : w6.cell? ⟨w.heap.size, j, none⟩ = some (.int .i64 G) := (hb6.cell (p := ⟨w.heap.size, j, none⟩) hgs3).trans hcj
          have HB6 := Lib.hid (HB.out.trans (hb6.mono hws))
          clear ho6 hI6 hb6 hcj C9
          cases hcn : (afs l j).contains i
          · rw [hcn] at c10 hnx
            have C10 := Lib.hid c10
            have HN := Lib.hid hnx
            clear c10 hnx hcn
            go_wp2_with fail
            refine C10.out.mono ?_
            rintro e w7 ⟨rfl, rfl⟩
            go_wp2
            go_roundw
            case rel => exact ⟨j + 1, by omega, by go_num, by rw [HE2.out, HN.out]; rfl, HB6.out⟩
            case measure => simp [intOf]; omega
          · rw [hcn] at c10 hnx
            rw [Bool.true_and] at hnx
            have C10 := Lib.hid c10
            by_cases hG : G < E1
            · rw [if_pos (decide_eq_true hG)] at hnx
              have HN := Lib.hid hnx
              clear c10 hnx hcn
              go_wp2_with fail
              refine C10.out.mono ?_
              rintro e w7 ⟨rfl, rfl⟩
              go_wp2
              go_roundw
              case rel => exact ⟨j + 1, by omega, by go_num, by rw [HE2.out, HN.out], HB6.out⟩
              case measure => simp [intOf]; omega
            · rw [if_neg (by simp; omega)] at hnx
              have HN := Lib.hid hnx
              clear c10 hnx hcn
              go_wp2_with fail
              refine C10.out.mono ?_
              rintro e w7 ⟨rfl, rfl⟩
              go_wp2
              go_roundw
              case rel => exact ⟨j + 1, by omega, by go_num, by rw [HE2.out, HN.out], HB6.out⟩
              case measure => simp [intOf]; omega
        · have hjl : j = l.length := by omega
          have hj1 : ¬ (j : Int) < l.length := by omega
          have hnx := HNX.out
          rw [← hjl] at hnx
          have heb := HEB.out j
          generalize endR l Q i j = E1 at *
          obtain ⟨b7, off7, rfl, hb7, d1, d2, d3, -⟩ := (HX.out.below hbw2).at_ i hil
          have hda := dy_bd HP.out hil
          change 1 ≤ (tkA l i).dy ∧ (tkA l i).dy ≤ 1000 at hda
          have hdy : dyA l i = (tkA l i).dy := rfl
          rw [hdy] at hnx
          generalize (tkA l i).dy = Y at *
          obtain ⟨hgs3, hgb, hgc, hgf⟩ := jown_at hE2.own
          have hci := hgc i hil
          have hfi := hgf i
          have hst := hE2.store HNB.out i (E1 - Y)
          rw [← hnx] at hst
          have HST := Lib.hid hst
          have hwr : wrap64 (E1 - Y) = E1 - Y := IntWalk.wrap64_in _ ⟨by omega, by omega⟩
          have hb71 : b7 < wr.heap.size := by have := hbw2.size; omega
          clear hnx hgc hgf hst hE2 hb HEN HEB HNX HBD d1 d3
          subst hjl
          go_wp2
          refine ⟨⟨q + 1, by omega, congrArg (Value.int .i64) (by have := HKK.out; omega), by rw [HQN.out]; exact HST⟩, ?_⟩
          first | (simp [intOf]; done) | (simp [intOf]; omega)
    · have hkl : q = l.length := by omega
      have hz : (l.length : Int) - 1 - q = -1 := by omega
      have HF : Hid (RaR l w w.heap.size A1 (latR l) wr) := Lib.hid (by rw [← latRK_end (l := l) (k := q) (by omega)]; exact HE.out)
      rw [hz]
      clear HE
      go_wp2
      go_ret
      exact ⟨⟨_, rfl, HF.out.own⟩, HF.out.bel⟩
end Go.Proofs.Ytgijekhlbkfanaa

namespace Go.Proofs.Ytgijekhlbkfanaa
open Go.RowKit Go.Shelf
attribute [local go_sem] Later.cell Same.cell

theorem trnK_len (late : List Int) (n d : Nat) : (trnK late n d).length ≤ n :=
  nodup_len ((trnK_sorted (late := late) (n := n) d).imp fun {a b} hab e => by subst e; exact lexL.irr hab) fun x hx => (trnK_mem.1 hx).1
theorem trnA_len (late : List Int) (n d : Nat) {j : Nat} (hj : j ≤ n) : (trnA late n d j).length ≤ (trnA late n d n).length := by
  unfold trnA
  obtain ⟨m, rfl⟩ : ∃ m, n = j + m := ⟨n - j, by omega⟩
  rw [List.range_add, List.filter_append, List.length_append]
  omega
theorem trnJ_len (late : List Int) (n d : Nat) {j : Nat} (hj : j ≤ n) : (trnK late n d ++ trnA late n d j).length ≤ n := by
  have h1 := trnK_len late n (d + 1)
  rw [trnK, List.length_append] at h1
  rw [List.length_append]
  have := trnA_len late n d hj
  omega
theorem lat_bdE {l : List Tk} (h : okP l) : bdE 1000000 (latP l) := fun i => by
  by_cases hi : i < l.length
  · have h1 := lat_pos h hi
    have h2 := (latP_is h).le i hi
    have h3 := (dy_bd h hi).1
    have h4 := lenV_bd h
    omega
  · unfold gI
    rw [List.getElem?_eq_none (by rw [latP_len]; omega)]
    show (0 : Int) ≤ 0 ∧ (0 : Int) ≤ 1000000
    omega
theorem latE_bd {l : List Tk} (h : okP l) : 0 ≤ endsV l (latP l) ∧ endsV l (latP l) ≤ 201000 := by
  refine ⟨(ends_spec l (latP l)).1, ?_⟩
  have h4 := lenV_bd h
  rcases (ends_spec l (latP l)).2.2 with h1 | ⟨i, hi, h1⟩
  · omega
  · have h2 := (latP_is h).le i hi
    omega
end Go.Proofs.Ytgijekhlbkfanaa
