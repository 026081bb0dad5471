/- RopeTexts: the walk of the statement. -/
import Derived.Test.YtolamhjbpdjgeaaDoorRpP
import Derived.Test.YtolamhjbpdjgeaaDoorSameU
import Derived.Test.YtolamhjbpdjgeaaDoorAwake4
set_option linter.unusedSimpArgs false
set_option linter.unusedVariables false
namespace Go.Proofs.YtolamhjbpdjgeaaDoor
open Go.RowKit
attribute [local go_sem] Later.cell

theorem same_yes (A : Option Addr) (len cap : Nat) (xs : List (Int × Int)) (A' : Option Addr) (cap' : Nat) (w : World) (hm : len ≤ 9223372036854775807) (hx : Pairs w w.heap.size A len xs) (hy : Pairs w w.heap.size A' len xs) :
    Calls Tryd.prog 7 #[.slice A len cap, .slice A' len cap'] w fun e w' => e = .returned (.bool true) ∧ Below w.heap.size w w' := by
  have := Same_any A len cap xs A' len cap' xs w hm hm hx hy
  rwa [decide_eq_true (rfl : xs = xs)] at this
theorem TabA.b {w W : World} (h : TabA w) (hb : Below w.heap.size w W) : TabA W := h.below hb
set_option maxRecDepth 20000 in
set_option maxHeartbeats 4000000 in
theorem texts_walk (A : Option Addr) (len cap : Nat) (l : List (Int × Int)) (b : List UInt8) (w : World) (htab : TabA w) (hm : len ≤ cap ∧ cap ≤ 9223372036854775807) (hx : Pairs w w.heap.size A len l) (hb47 : b.length ≤ 9223372036854775807) :
    Calls Tryd.prog 3 #[.slice A len cap, .string ⟨b.toArray⟩] w fun e w' => e = .returned (.bool true) ∧ Below w.heap.size w w' := by
  by_cases h1 : 700 < len
  · clear hx htab
    go_enter Tryd.func3, Tryd.ntmps3
    go_wp2_with (go_at_call 4; refine (awake_any _).mono ?_; rintro e w1 ⟨rfl, hb1⟩)
    go_ret
    exact ⟨rfl, (by repeat (first | exact Below.refl _ _ | assumption | refine Below.setCell ?_ (by first | (simp; done) | (simp; omega) | omega) _ | refine Below.drew ?_ | refine below_drewN ?_ _ | refine Below.alloc ?_ (by first | (simp; done) | (simp; omega) | omega) _ | refine below_alloc ?_ _ | refine below_step ?_ (by assumption)))⟩
  · have C1 := Lib.hid (fun W (h : Below w.heap.size w W) => Parse_any b W (htab.b h) hb47)
    have C2 := Lib.hid (fun W => rParse_any b W hb47)
    have C3 := Lib.hid (fun W (h : Below w.heap.size w W) => Format_any A len cap l W (htab.b h).tab (by omega) ((hx.below h).more h.size))
    have C4 := Lib.hid (fun W (h : Below w.heap.size w W) => rFormat_any A len cap l W (by omega) ((hx.below h).more h.size))
    have C5 := Lib.hid (fun W (h : Below w.heap.size w W) => rValidUses_any A len cap l W (by omega) ((hx.below h).more h.size))
    have HQ := Lib.hid (rp_back (b := b))
    have HX := Lib.hid hx
    have HT := Lib.hid htab
    clear hx htab
    generalize rpU b = P at *
    obtain ⟨V, N, E⟩ := P
    dsimp only at *
    go_enter Tryd.func3, Tryd.ntmps3
    go_wp2_with fail
    refine (C1.out _ (by repeat (first | exact Below.refl _ _ | assumption | refine Below.setCell ?_ (by first | (simp; done) | (simp; omega) | omega) _ | refine Below.drew ?_ | refine below_drewN ?_ _ | refine Below.alloc ?_ (by first | (simp; done) | (simp; omega) | omega) _ | refine below_alloc ?_ _ | refine below_step ?_ (by assumption)))).mono ?_
    rintro e w1 ⟨⟨v1, rfl, ho1⟩, hb⟩
    obtain ⟨A1, k1, rfl, hm1, hm2, hR1⟩ := own_pairs1 ho1
    have HR1 := Lib.hid hR1
    have HB1 := Lib.hid hb
    have hs1 := hb.size
    clear ho1 hR1 hb
    go_wp2_with fail
    refine (C2.out _).mono ?_
    rintro e w2 ⟨⟨v2, rfl, ho2⟩, hb⟩
    obtain ⟨A2, k2, rfl, hm3, hm4, hR2⟩ := own_pairs1 ho2
    have HR2 := Lib.hid hR2
    have HR3 := Lib.hid ((HR1.out.below hb).more hb.size)
    have HB2 := Lib.hid (below_step HB1.out hb)
    have hs2 := hb.size
    clear ho2 hR2 hb HR1 HB1
    have hVl : V.length ≤ 9223372036854775807 := by unfold maxLen at hm2; omega
    have CS := Lib.hid (same_yes A1 V.length k1 V A2 k2 w2 hVl HR3.out HR2.out)
    go_wp2_with fail
    refine CS.out.mono ?_
    rintro e w3 ⟨rfl, hb⟩
    have HB3 := Lib.hid (below_step HB2.out hb)
    have HR4 := Lib.hid ((HR3.out.below hb).more hb.size)
    have hs3 := hb.size
    clear hb CS HR3 HR2
    by_cases hE : E = 0
    · have hF := HQ.out hE
      have CF := Lib.hid (Format_any A1 V.length k1 V w3 (HT.out.b HB3.out).tab hVl HR4.out)
      rw [hF] at CF
      subst hE
      clear hF HQ
      go_wp2_with fail
      refine CF.out.mono ?_
      rintro e w4 ⟨rfl, hb⟩
      have HB4 := Lib.hid (below_step HB3.out hb)
      have hs4 := hb.size
      clear hb CF HR4
      go_wp2_with fail
      refine (C3.out _ HB4.out).mono ?_
      rintro e w5 ⟨rfl, hb⟩
      have HB5 := Lib.hid (below_step HB4.out hb)
      have hs5 := hb.size
      clear hb C3
      go_wp2_with fail
      refine (C4.out _ HB5.out).mono ?_
      rintro e w6 ⟨rfl, hb⟩
      have HB6 := Lib.hid (below_step HB5.out hb)
      have hs6 := hb.size
      clear hb C4
      go_wp2_with fail
      refine (C5.out _ HB6.out).mono ?_
      rintro e w7 ⟨rfl, hb⟩
      have HB7 := Lib.hid (below_step HB6.out hb)
      have hs7 := hb.size
      clear hb C5
      by_cases hv : goodU l = true
      · have r1 := rp_fmt hv
        have r2 := fmtU_len (us := l)
        have c6 := fun W (h : TabA W) => Parse_any (fmtU l) W h (by omega)
        rw [r1] at c6
        dsimp only at c6
        have C6 := Lib.hid c6
        have HT7 := Lib.hid (HT.out.b HB7.out)
        have HX7 := Lib.hid ((HX.out.below HB7.out).more HB7.out.size)
        have hln : l.length = len := HX.out.1
        rw [hv]
        clear c6 r1 r2 hv
        generalize fmtU l = F at *
        go_wp2_with fail
        refine (C6.out _ HT7.out).mono ?_
        rintro e w8 ⟨⟨v8, rfl, ho8⟩, hb⟩
        rw [hln] at ho8
        obtain ⟨A8, k8, rfl, hm5, hm6, hR8⟩ := own_pairs1 ho8
        have HB8 := Lib.hid (below_step HB7.out hb)
        have C8 := Lib.hid (same_yes A8 len k8 l A cap w8 (by omega) hR8 ((HX7.out.below hb).more hb.size))
        clear hb ho8 hR8 hln HX7 HT7 C6
        go_wp2_with fail
        refine C8.out.mono ?_
        rintro e w9 ⟨rfl, hb⟩
        have HB9 := Lib.hid (below_step HB8.out hb)
        clear hb C8
        go_wp2_with fail
        refine (awake_any _).mono ?_
        rintro e w10 ⟨rfl, hb⟩
        have HB10 := Lib.hid (below_step HB9.out hb)
        clear hb
        go_wp2
        go_ret
        exact ⟨rfl, HB10.out⟩
      · have hv : goodU l = false := by simpa using hv
        rw [hv]
        generalize fmtU l = F at *
        go_wp2_with fail
        refine (awake_any _).mono ?_
        rintro e w8 ⟨rfl, hb⟩
        have HB8 := Lib.hid (below_step HB7.out hb)
        clear hb
        go_wp2
        go_ret
        exact ⟨rfl, HB8.out⟩
    · have hEb : (E == 0) = false := by rw [beq_eq_false_iff_ne]; exact hE
      clear HR4 HQ
      go_wp2_with fail
      refine (C3.out _ HB3.out).mono ?_
      rintro e w5 ⟨rfl, hb⟩
      have HB5 := Lib.hid (below_step HB3.out hb)
      have hs5 := hb.size
      clear hb C3
      go_wp2_with fail
      refine (C4.out _ HB5.out).mono ?_
      rintro e w6 ⟨rfl, hb⟩
      have HB6 := Lib.hid (below_step HB5.out hb)
      have hs6 := hb.size
      clear hb C4
      go_wp2_with fail
      refine (C5.out _ HB6.out).mono ?_
      rintro e w7 ⟨rfl, hb⟩
      have HB7 := Lib.hid (below_step HB6.out hb)
      have hs7 := hb.size
      clear hb C5
      by_cases hv : goodU l = true
      · have r1 := rp_fmt hv
        have r2 := fmtU_len (us := l)
        have c6 := fun W (h : TabA W) => Parse_any (fmtU l) W h (by omega)
        rw [r1] at c6
        dsimp only at c6
        have C6 := Lib.hid c6
        have HT7 := Lib.hid (HT.out.b HB7.out)
        have HX7 := Lib.hid ((HX.out.below HB7.out).more HB7.out.size)
        have hln : l.length = len := HX.out.1
        rw [hv]
        clear c6 r1 r2 hv
        generalize fmtU l = F at *
        go_wp2_with fail
        refine (C6.out _ HT7.out).mono ?_
        rintro e w8 ⟨⟨v8, rfl, ho8⟩, hb⟩
        rw [hln] at ho8
        obtain ⟨A8, k8, rfl, hm5, hm6, hR8⟩ := own_pairs1 ho8
        have HB8 := Lib.hid (below_step HB7.out hb)
        have C8 := Lib.hid (same_yes A8 len k8 l A cap w8 (by omega) hR8 ((HX7.out.below hb).more hb.size))
        clear hb ho8 hR8 hln HX7 HT7 C6
        go_wp2_with fail
        refine C8.out.mono ?_
        rintro e w9 ⟨rfl, hb⟩
        have HB9 := Lib.hid (below_step HB8.out hb)
        clear hb C8
        go_wp2_with fail
        refine (awake_any _).mono ?_
        rintro e w10 ⟨rfl, hb⟩
        have HB10 := Lib.hid (below_step HB9.out hb)
        clear hb
        go_wp2
        go_ret
        exact ⟨rfl, HB10.out⟩
      · have hv : goodU l = false := by simpa using hv
        rw [hv]
        generalize fmtU l = F at *
        go_wp2_with fail
        refine (awake_any _).mono ?_
        rintro e w8 ⟨rfl, hb⟩
        have HB8 := Lib.hid (below_step HB7.out hb)
        clear hb
        go_wp2
        go_ret
        exact ⟨rfl, HB8.out⟩
theorem texts_row (A : Option Addr) (len cap : Nat) (l : List (Int × Int)) (s : ByteArray) (w : World) (hm : len ≤ cap ∧ cap ≤ 9223372036854775807) (hx : Pairs w w.heap.size A len l) (_ : ∀ x ∈ l, (-9223372036854775808 ≤ x.1 ∧ x.1 ≤ 9223372036854775807) ∧ -9223372036854775808 ≤ x.2 ∧ x.2 ≤ 9223372036854775807) (hs : s.size ≤ 9223372036854775807) (htab : TabA w) :
    Calls Tryd.prog 3 #[.slice A len cap, .string s] w fun e w' => e = .returned (.bool true) ∧ Below w.heap.size w w' := by
  have e : s = ⟨s.data.toList.toArray⟩ := by simp
  have hl : s.data.toList.length = s.size := by show s.data.toList.length = s.data.size; simp
  rw [e]
  exact texts_walk A len cap l s.data.toList w htab hm hx (by omega)
end Go.Proofs.YtolamhjbpdjgeaaDoor
