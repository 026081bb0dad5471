/- Plans: the reference's Check, Order. -/
import Derived.Test.YtmionebfepkolaaGreatDoorJobR3
import Derived.Test.YtmionebfepkolaaGreatDoorYJa
set_option linter.unusedSimpArgs false
set_option linter.unusedVariables false
namespace Go.Proofs.YtmionebfepkolaaGreatDoor
open Go.RowKit
attribute [local go_sem] Later.cell Same.cell

theorem fndZ_lt {l : List Tk} {s : ByteArray} (h : fnd l s < l.length) : fndZ l s = (fnd l s : Int) := if_pos h
theorem fndZ_no {l : List Tk} {s : ByteArray} (h : ¬ fnd l s < l.length) : fndZ l s = -1 := if_neg h
theorem Rows.take' {w : World} {B : Nat} {A : Option Addr} {n k : Nat} {ss : List ByteArray} (h : Strs w B A n ss) (hk : k ≤ n) : Strs w B A k (ss.take k) := by
  refine ⟨by rw [List.length_take, h.1]; omega, fun h0 => ?_⟩
  obtain ⟨b, off, h1, h2, h3⟩ := h.2 (by omega)
  refine ⟨b, off, h1, h2, fun j hj q v hv => h3 j (by omega) q v ?_⟩
  rw [List.getElem?_take, if_pos hj] at hv; exact hv
set_option maxRecDepth 20000 in
set_option maxHeartbeats 8000000 in
theorem rCheck_any0 (A : Option Addr) (len cap : Nat) (l : List Tk) (w : World) (hl1 : l.length ≤ 1000) (hnm : ∀ i, i < l.length → (tkA l i).nm.size ≤ 9223372036854775807) (hx : Plan w w.heap.size A len l) :
    Calls Tryz.prog 11 #[.slice A len cap] w fun e w' => e = .returned (.int .i64 (checkE l)) ∧ Below w.heap.size w w' := by
  obtain rfl : l.length = len := hx.1
  by_cases h0 : l.length = 0
  · have hE : checkE l = 8 := by unfold checkE; rw [if_pos h0]
    rw [hE]
    have h00 : ((l.length : Int) == 0) = true := by simp [h0]
    clear hx hE
    go_enter Tryz.func11, Tryz.ntmps11
    go_wp2
    go_ret
    exact ⟨rfl, (by repeat (first | exact Below.refl _ _ | assumption | refine Below.setCell ?_ (by first | (simp; done) | (simp; omega) | omega) _ | refine Below.drew ?_ | refine below_drewN ?_ _ | refine Below.alloc ?_ (by first | (simp; done) | (simp; omega) | omega) _ | refine below_alloc ?_ _ | refine below_step ?_ (by assumption)))⟩
  · have h00 : ((l.length : Int) == 0) = false := by simpa using h0
    by_cases h20 : 20 < l.length
    · have hE : checkE l = 4 := by unfold checkE; rw [if_neg h0, if_pos h20]
      rw [hE]
      have h21 : (20 : Int) < l.length := by omega
      clear hx hE h0
      go_enter Tryz.func11, Tryz.ntmps11
      go_wp2
      go_ret
      exact ⟨rfl, (by repeat (first | exact Below.refl _ _ | assumption | refine Below.setCell ?_ (by first | (simp; done) | (simp; omega) | omega) _ | refine Below.drew ?_ | refine below_drewN ?_ _ | refine Below.alloc ?_ (by first | (simp; done) | (simp; omega) | omega) _ | refine below_alloc ?_ _ | refine below_step ?_ (by assumption)))⟩
    · have h21 : ¬ (20 : Int) < l.length := by omega
      have hSl := hl1
      have c1 := fun s W (h : Below w.heap.size w W) => find_any A l.length cap l s W (by omega) (hx.go h)
      have c2 := fun i W (hi : i < l.length) => IsName_any (tkA l i).nm W (hnm i hi)
      have c3 := fun n lo hi W => qwithin_any n lo hi W
      have c4 := fun A n cap xs s W (hn : n ≤ 9223372036854775807) (h : Strs W W.heap.size A n xs) => Has_any A n cap xs s W hn h
      have c5 := fun (ha : aloneE l = 0) (hn : namesE l = 0) W (h : Below w.heap.size w W) => rorder_any A l.length cap l W hSl (okN_mk ha hn) (fun i hi => by have := (alone_spec ha).2.2 i hi; omega) (hx.go h)
      have e1 := fun k hk hf hne => check_first (l := l) (k := k) h0 h20 hk hf hne
      have e2 := fun i k ha hi hr hk hf hne => check_second (l := l) (i := i) (k := k) h0 h20 ha hi hr hk hf hne
      have e3 := fun ha hn => check_last (l := l) h0 h20 ha hn
      generalize hR : checkE l = R at *
      have C1 := Lib.hid c1
      have C2 := Lib.hid c2
      have C3 := Lib.hid c3
      have C4 := Lib.hid c4
      have C5 := Lib.hid c5
      have E1 := Lib.hid e1
      have E2 := Lib.hid e2
      have E3 := Lib.hid e3
      have HX := Lib.hid hx
      have HL0 := Lib.hid hSl
      clear c1 c2 c3 c4 c5 e1 e2 e3 hx hR hnm hl1 h0 h20 hSl
      go_enter Tryz.func11, Tryz.ntmps11
      go_wp2
      go_loopw [3] (fun i W => ∃ k : Nat, k ≤ l.length ∧ i = .int .i64 k ∧ Hid (frst ((List.range k).map (tkE l)) = 0) ∧ Below w.heap.size w W) (fun i _ => l.length - (intOf i).toNat)
      case atStart => exact ⟨0, Nat.zero_le _, rfl, Lib.hid rfl, Below.refl _ _⟩
      case round =>
        obtain ⟨k, hk, rfl, HT, hB⟩ := hrel
        by_cases hlt : k < l.length
        · obtain ⟨b, off, rfl, hb0, hc1, hc2, hc3, A', n, cc, hc4, hn1, hn2, hSt⟩ := (HX.out.below hB).at_ k hlt
          have hbs := hB.size
          have hb1 : b < wr.heap.size := by omega
          have hk1 : (k : Int) < l.length := by omega
          have hk2 : ¬ l.length ≤ k := by omega
          have HE1 := Lib.hid (E1.out k hlt HT.out)
          have HTN := Lib.hid (fun h => frst_next (f := tkE l) HT.out h)
          have hnl : (tkA l k).af.length = n := hSt.1
          have hfo := fnd_of hlt
          have c6 := C2.out k wr hlt
          have c7 := C1.out (tkA l k).nm wr hB
          rw [fndZ_lt (by omega)] at c7
          have hcs := tk_cases l k
          rw [hnl] at hcs
          clear hSt hnl hfo
          generalize (tkA l k).nm = X at *
          generalize (tkA l k).dy = Y at *
          generalize (tkA l k).mn = Z at *
          generalize tkE l k = T at *
          generalize fnd l X = F at *
          have HB := Lib.hid hB
          rcases hcs with ⟨a1, rfl⟩ | ⟨⟨a1, a2⟩, rfl⟩ | ⟨⟨a1, a2, a3⟩, rfl⟩ | ⟨⟨a1, a2, a3⟩, hcs⟩
          · rw [a1] at c6
            have C6 := Lib.hid c6
            have HF := Lib.hid (HE1.out (by decide))
            clear c6 c7 a1 HTN HE1 HT
            go_wp2_with fail
            refine C6.out.mono ?_
            rintro e w1 ⟨rfl, rfl⟩
            go_wp2
            go_ret
            exact ⟨ret_int HF.out, HB.out⟩
          · rw [a1] at c6
            have C6 := Lib.hid c6
            have c8 := C3.out Y 1 1000 wr
            rw [a2] at c8
            have C8 := Lib.hid c8
            have HF := Lib.hid (HE1.out (by decide))
            clear c6 c7 c8 a1 a2 HTN HE1 HT
            go_wp2_with fail
            refine C6.out.mono ?_
            rintro e w1 ⟨rfl, rfl⟩
            go_wp2_with fail
            refine C8.out.mono ?_
            rintro e w1 ⟨rfl, rfl⟩
            go_wp2
            go_ret
            exact ⟨ret_int HF.out, HB.out⟩
          · rw [a1] at c6
            have C6 := Lib.hid c6
            have c8 := C3.out Y 1 1000 wr
            rw [a2] at c8
            have C8 := Lib.hid c8
            have c9 := C3.out Z 1 16 wr
            rw [a3] at c9
            have C9 := Lib.hid c9
            have HF := Lib.hid (HE1.out (by decide))
            clear c6 c7 c8 c9 a1 a2 a3 HTN HE1 HT
            go_wp2_with fail
            refine C6.out.mono ?_
            rintro e w1 ⟨rfl, rfl⟩
            go_wp2_with fail
            refine C8.out.mono ?_
            rintro e w1 ⟨rfl, rfl⟩
            go_wp2_with fail
            refine C9.out.mono ?_
            rintro e w1 ⟨rfl, rfl⟩
            go_wp2
            go_ret
            exact ⟨ret_int HF.out, HB.out⟩
          · rw [a1] at c6
            have C6 := Lib.hid c6
            have c8 := C3.out Y 1 1000 wr
            rw [a2] at c8
            have C8 := Lib.hid c8
            have c9 := C3.out Z 1 16 wr
            rw [a3] at c9
            have C9 := Lib.hid c9
            have C7 := Lib.hid c7
            clear c6 c7 c8 c9 a1 a2 a3
            rcases hcs with ⟨a4, rfl⟩ | ⟨a4, a5, rfl⟩ | ⟨a4, a5, rfl⟩
            · have a6 : (F : Int) < k := by omega
              have HF := Lib.hid (HE1.out (by decide))
              clear HTN HE1 HT
              go_wp2_with fail
              refine C6.out.mono ?_
              rintro e w1 ⟨rfl, rfl⟩
              go_wp2_with fail
              refine C8.out.mono ?_
              rintro e w1 ⟨rfl, rfl⟩
              go_wp2_with fail
              refine C9.out.mono ?_
              rintro e w1 ⟨rfl, rfl⟩
              go_wp2_with fail
              refine C7.out.mono ?_
              rintro e w1 ⟨rfl, hb2⟩
              have hB2 := Lib.hid (hB.trans (hb2.mono hbs))
              clear hb2
              go_wp2
              go_ret
              exact ⟨ret_int HF.out, hB2.out⟩
            · have a6 : ¬ (F : Int) < k := by omega
              have a7 : (10 : Int) < n := by omega
              have HF := Lib.hid (HE1.out (by decide))
              clear HTN HE1 HT
              go_wp2_with fail
              refine C6.out.mono ?_
              rintro e w1 ⟨rfl, rfl⟩
              go_wp2_with fail
              refine C8.out.mono ?_
              rintro e w1 ⟨rfl, rfl⟩
              go_wp2_with fail
              refine C9.out.mono ?_
              rintro e w1 ⟨rfl, rfl⟩
              go_wp2_with fail
              refine C7.out.mono ?_
              rintro e w1 ⟨rfl, hb2⟩
              have hB2 := Lib.hid (hB.trans (hb2.mono hbs))
              have hc5 : w1.cell? ⟨b, off + k * 4 + 3, none⟩ = some (.slice A' n cc) := by rw [hb2.cell (p := ⟨b, _, none⟩) hb1]; exact hc4
              clear hb2
              go_wp2
              go_ret
              exact ⟨ret_int HF.out, hB2.out⟩
            · have a6 : ¬ (F : Int) < k := by omega
              have a7 : ¬ (10 : Int) < n := by omega
              have HF := Lib.hid (HTN.out rfl)
              clear HTN HE1 HT
              go_wp2_with fail
              refine C6.out.mono ?_
              rintro e w1 ⟨rfl, rfl⟩
              go_wp2_with fail
              refine C8.out.mono ?_
              rintro e w1 ⟨rfl, rfl⟩
              go_wp2_with fail
              refine C9.out.mono ?_
              rintro e w1 ⟨rfl, rfl⟩
              go_wp2_with fail
              refine C7.out.mono ?_
              rintro e w1 ⟨rfl, hb2⟩
              have hB2 := Lib.hid (hB.trans (hb2.mono hbs))
              have hc5 : w1.cell? ⟨b, off + k * 4 + 3, none⟩ = some (.slice A' n cc) := by rw [hb2.cell (p := ⟨b, _, none⟩) hb1]; exact hc4
              clear hb2
              go_wp2
              go_roundw
              case rel => exact ⟨k + 1, by omega, by go_num, HF, hB2.out⟩
              case measure => simp [intOf]; omega
        · have hkl : k = l.length := by omega
          have hk1 : ¬ (k : Int) < l.length := by omega
          have HA : Hid (aloneE l = 0) := Lib.hid (by unfold aloneE; rw [← hkl]; exact HT.out)
          have HB := Lib.hid hB
          have E2' := Lib.hid (fun i k => E2.out i k HA.out)
          have E3' := Lib.hid (E3.out HA.out)
          have C5' := Lib.hid (C5.out HA.out)
          subst hkl
          clear HT E1 E2 E3 C2 C3 C5 hB
          go_wp2
          go_loopw [4] (fun i W => ∃ k : Nat, k ≤ l.length ∧ i = .int .i64 k ∧ Hid (frst ((List.range k).map (rowE l)) = 0) ∧ Below w.heap.size w W) (fun i _ => l.length - (intOf i).toNat)
          case atStart => exact ⟨0, Nat.zero_le _, rfl, Lib.hid rfl, HB.out⟩
          case round =>
            obtain ⟨i, hi, rfl, HT, hB⟩ := hrel
            by_cases hlt : i < l.length
            · obtain ⟨b, off, hA, hb0, -, -, -, A', n, cc, hc4, hn1, hn2, hSt⟩ := HX.out.at_ i hlt
              have HSt := Lib.hid hSt
              have hC4 := Lib.hid hc4
              have hi1 : (i : Int) < l.length := by omega
              have hi2 : ¬ l.length ≤ i := by omega
              have hnl : (tkA l i).af.length = n := hSt.1
              have HE2 := Lib.hid (fun k (hk : k < n) => E2'.out i k hlt HT.out (by rw [hnl]; exact hk))
              have HTN := Lib.hid (fun h => frst_next (f := rowE l) HT.out h)
              have HNL := Lib.hid hnl
              have HB0 := Lib.hid hB
              have hnb : n ≤ 9223372036854775807 := by omega
              clear hSt hnl hB hc4 HT E2'
              have hbs := HB0.out.size
              have hcw : wr.cell? ⟨b, off + i * 4 + 3, none⟩ = some (.slice A' n cc) := by rw [HB0.out.cell (p := ⟨b, _, none⟩) hb0]; exact hC4.out
              have hb1 : b < wr.heap.size := by omega
              subst hA
              go_wp2
              go_loopw [5] (fun i' W => ∃ k : Nat, k ≤ n ∧ i' = .int .i64 k ∧ Hid (frst ((List.range k).map (afE l i)) = 0) ∧ Below w.heap.size w W) (fun i _ => n - (intOf i).toNat)
              case atStart => exact ⟨0, Nat.zero_le _, rfl, Lib.hid rfl, HB0.out⟩
              case round =>
                clear hcw hb1 hbs
                obtain ⟨k, hk, rfl, HT, hB⟩ := hrel
                have hbs := hB.size
                have hb1 : b < wr.heap.size := by omega
                have hcw : wr.cell? ⟨b, off + i * 4 + 3, none⟩ = some (.slice A' n cc) := by rw [hB.cell (p := ⟨b, _, none⟩) hb0]; exact hC4.out
                by_cases hlk : k < n
                · obtain ⟨b2, off2, rfl, hb2, hc6⟩ := (HSt.out.below hB).atS k hlk
                  have hb3 : b2 < wr.heap.size := by omega
                  have hk1 : (k : Int) < n := by omega
                  have hk2 : ¬ n ≤ k := by omega
                  have HE := Lib.hid (HE2.out k hlk HT.out)
                  have HTM := Lib.hid (fun h => frst_next (f := afE l i) HT.out h)
                  have hcs := af_cases l i k
                  have c7 := C1.out (afA l i k) wr hB
                  have c8 := fun W (h : Below w.heap.size w W) => C4.out (some ⟨b2, off2, none⟩) k cc ((tkA l i).af.take k) (afA l i k) W (by omega) (((HSt.out.take' (by omega)).below h).more h.size)
                  change wr.cell? _ = some (.string (afA l i k)) at hc6
                  generalize afA l i k = X at *
                  generalize afE l i k = T at *
                  have HB := Lib.hid hB
                  rcases hcs with ⟨a1, rfl⟩ | ⟨a1, a2, rfl⟩ | ⟨a1, a2, rfl⟩
                  · rw [fndZ_no a1] at c7
                    have C7 := Lib.hid c7
                    have HF := Lib.hid (HE.out (by decide))
                    clear c7 c8 a1 HE HTM HT hB
                    go_wp2_with fail
                    refine C7.out.mono ?_
                    rintro e w1 ⟨rfl, hb2⟩
                    have hB2 := Lib.hid (HB.out.trans (hb2.mono hbs))
                    clear hb2
                    go_wp2
                    go_ret
                    exact ⟨ret_int HF.out, hB2.out⟩
                  · rw [fndZ_lt a1] at c7
                    have C7 := Lib.hid c7
                    rw [a2] at c8
                    have C8 := Lib.hid c8
                    have HF := Lib.hid (HE.out (by decide))
                    generalize fnd l X = F at *
                    clear c7 c8 a1 a2 HE HTM HT hB
                    go_wp2_with fail
                    refine C7.out.mono ?_
                    rintro e w1 ⟨rfl, hbb⟩
                    have hB2 := (HB.out.trans (hbb.mono hbs))
                    have hcw2 : w1.cell? ⟨b, off + i * 4 + 3, none⟩ = some (.slice (some ⟨b2, off2, none⟩) n cc) := by rw [hbb.cell (p := ⟨b, _, none⟩) hb1]; exact hcw
                    have hc62 : w1.cell? ⟨b2, off2 + k, none⟩ = some (.string X) := by rw [hbb.cell (p := ⟨b2, _, none⟩) hb3]; exact hc6
                    have hs2 := hbb.size
                    have hb12 : b < w1.heap.size := by omega
                    have hb32 : b2 < w1.heap.size := by omega
                    clear hbb hcw hc6
                    go_wp2_with fail
                    (refine wp_region_later (by kernel_rfl) (by kernel_rfl) ?_; (repeat (go_big_quiet_step ((go_at_call 28; exact later_same (C8.out _ (below_step hB2 (‹Later _›).h)))))); refine wpQuiet_nil ?_)
                    intro w3 hb3
                    have hB3 := Lib.hid (hB2.trans (hb3.mono hB2.size))
                    clear hb3
                    go_wp2
                    go_ret
                    exact ⟨ret_int HF.out, hB3.out⟩
                  · rw [fndZ_lt a1] at c7
                    have C7 := Lib.hid c7
                    rw [a2] at c8
                    have C8 := Lib.hid c8
                    have HF := Lib.hid (HTM.out rfl)
                    generalize fnd l X = F at *
                    clear c7 c8 a1 a2 HE HTM HT hB
                    go_wp2_with fail
                    refine C7.out.mono ?_
                    rintro e w1 ⟨rfl, hbb⟩
                    have hB2 := (HB.out.trans (hbb.mono hbs))
                    have hcw2 : w1.cell? ⟨b, off + i * 4 + 3, none⟩ = some (.slice (some ⟨b2, off2, none⟩) n cc) := by rw [hbb.cell (p := ⟨b, _, none⟩) hb1]; exact hcw
                    have hc62 : w1.cell? ⟨b2, off2 + k, none⟩ = some (.string X) := by rw [hbb.cell (p := ⟨b2, _, none⟩) hb3]; exact hc6
                    have hs2 := hbb.size
                    have hb12 : b < w1.heap.size := by omega
                    have hb32 : b2 < w1.heap.size := by omega
                    clear hbb hcw hc6
                    go_wp2_with fail
                    (refine wp_region_later (by kernel_rfl) (by kernel_rfl) ?_; (repeat (go_big_quiet_step ((go_at_call 28; exact later_same (C8.out _ (below_step hB2 (‹Later _›).h)))))); refine wpQuiet_nil ?_)
                    intro w3 hb3
                    have hB3 := Lib.hid (hB2.trans (hb3.mono hB2.size))
                    clear hb3
                    go_wp2
                    go_roundw
                    case rel => exact ⟨k + 1, by omega, by go_num, HF, hB3.out⟩
                    case measure => simp [intOf]; omega
                · have hkn : k = n := by omega
                  have hk1 : ¬ (k : Int) < n := by omega
                  have HF := Lib.hid (HTN.out (by unfold rowE; rw [HNL.out, ← hkn]; exact HT.out))
                  have HB := Lib.hid hB
                  clear HT HTN HE2 hB
                  go_wp2
                  go_roundw
                  case rel => exact ⟨i + 1, by omega, by go_num, HF, HB.out⟩
                  case measure => simp [intOf]; omega
            · have hil : i = l.length := by omega
              have hi1 : ¬ (i : Int) < l.length := by omega
              have HN : Hid (namesE l = 0) := Lib.hid (by unfold namesE; rw [← hil]; exact HT.out)
              have HF := Lib.hid (E3'.out HN.out)
              have c5 := C5'.out HN.out wr hB
              have hle := ordK_le l l.length
              change (ord l).length ≤ l.length at hle
              have HB := Lib.hid hB
              have hbs := hB.size
              subst hil
              generalize (ord l).length = n at *
              have C9 := Lib.hid c5
              clear c5 HT E3' E2' C5' hB
              by_cases hn : n < l.length
              · have hn1 : (n : Int) < l.length := by omega
                have HG : Hid (10 = R) := Lib.hid (by rw [HF.out, if_pos hn])
                clear HF
                go_wp2_with fail
                refine C9.out.mono ?_
                rintro e w1 ⟨⟨v, rfl, ho⟩, hb⟩
                obtain ⟨A1, cap1, rfl, -, -, -, -⟩ := own_ints ho
                have hB2 := Lib.hid (HB.out.trans (hb.mono hbs))
                clear ho hb
                go_wp2
                go_ret
                exact ⟨ret_int HG.out, hB2.out⟩
              · have hn1 : ¬ (n : Int) < l.length := by omega
                have HG : Hid (0 = R) := Lib.hid (by rw [HF.out, if_neg hn])
                clear HF
                go_wp2_with fail
                refine C9.out.mono ?_
                rintro e w1 ⟨⟨v, rfl, ho⟩, hb⟩
                obtain ⟨A1, cap1, rfl, -, -, -, -⟩ := own_ints ho
                have hB2 := Lib.hid (HB.out.trans (hb.mono hbs))
                clear ho hb
                go_wp2
                go_ret
                exact ⟨ret_int HG.out, hB2.out⟩
theorem rCheck_any (A : Option Addr) (len cap : Nat) (l : List Tk) (w : World) (hS : Sml l) (hx : Plan w w.heap.size A len l) :
    Calls Tryz.prog 11 #[.slice A len cap] w fun e w' => e = .returned (.int .i64 (checkE l)) ∧ Below w.heap.size w w' :=
  rCheck_any0 A len cap l w hS.len hS.nm hx
end Go.Proofs.YtmionebfepkolaaGreatDoor
