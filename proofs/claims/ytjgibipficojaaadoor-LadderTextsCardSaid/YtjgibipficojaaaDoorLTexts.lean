/- LadderTexts: the walk of the statement. -/
import Derived.Test.YtjgibipficojaaaDoorLTxtL
import Derived.Test.YtjgibipficojaaaDoorFail
set_option linter.unusedSimpArgs false
set_option linter.unusedVariables false
namespace Go.Proofs.YtjgibipficojaaaDoor
open Go.RowKit
attribute [local go_sem] Later.cell

theorem Tab.b {w W : World} (h : Tab w) (hb : Below w.heap.size w W) : Tab W := h.below hb
set_option maxRecDepth 20000 in
set_option maxHeartbeats 4000000 in
theorem texts_walk (A : Option Addr) (len cap : Nat) (l : List J) (b : List UInt8) (w : World) (htab : Tab w) (hm : len ≤ cap ∧ cap ≤ 9223372036854775807) (hx : Rows 2 jointV dJ w w.heap.size A len l) (hb47 : b.length ≤ 9223372036854775807) :
    Calls Tryd.prog 3 #[.slice A len cap, .string ⟨b.toArray⟩] w fun e w' => e = .returned (.bool true) ∧ Below w.heap.size w w' := by
  by_cases h1 : 300 < len
  · clear hx htab
    go_enter Tryd.func3, Tryd.ntmps3
    go_wp2_with (go_at_call 4; refine (awake_any _).mono ?_; rintro e w1 ⟨rfl, hb1⟩)
    go_ret
    exact ⟨rfl, (by repeat (first | exact Below.refl _ _ | assumption | refine Below.setCell ?_ (by first | (simp; done) | (simp; omega) | omega) _ | refine Below.drew ?_ | refine below_drewN ?_ _ | refine Below.alloc ?_ (by first | (simp; done) | (simp; omega) | omega) _ | refine below_alloc ?_ _ | refine below_step ?_ (by assumption)))⟩
  · have c1 := fun W (h : Below w.heap.size w W) => Parse_any b W (htab.b h) hb47
    have c2 := fun W => rParse_any b W hb47
    have c3 := fun W (h : Below w.heap.size w W) => Format_any A len cap l W (htab.b h) (by omega) ((hx.below h).more h.size)
    have c4 := fun W (h : Below w.heap.size w W) => rFormat_any A len cap l W (by omega) ((hx.below h).more h.size)
    have c5 := fun W (h : Below w.heap.size w W) => rVJoints_any A len cap l W (by omega) ((hx.below h).more h.size)
    have cS := fun (A1 : Option Addr) (n k1 : Nat) (A2 : Option Addr) (k2 : Nat) L W (hn : n ≤ 9223372036854775807) (h1 : Rows 2 jointV dJ W W.heap.size A1 n L) (h2 : Rows 2 jointV dJ W W.heap.size A2 n L) => Same_any A1 n k1 A2 k2 L W hn h1 h2
    obtain ⟨q1, q2, q3⟩ := both_eq b
    rw [← q1, ← q2] at c2
    have HX := Lib.hid hx
    have HT := Lib.hid htab
    have C1 := Lib.hid c1
    have C2 := Lib.hid c2
    have C3 := Lib.hid c3
    have C4 := Lib.hid c4
    have C5 := Lib.hid c5
    have HQ := Lib.hid q3
    clear c1 c2 c3 c4 c5 cS q1 q2 q3 hx htab
    have hE : ppE b = 0 ∨ ppE b = 2 ∨ ppE b = 3 := by
      unfold ppE
      split
      · exact .inr (.inr rfl)
      · split
        · exact .inl rfl
        · split
          · exact .inr (.inl rfl)
          · split
            · exact .inl rfl
            · exact .inr (.inl rfl)
    have HE := Lib.hid hE
    clear hE
    generalize hV : ppV b = V at *
    generalize hE0 : ppE b = E at *
    clear hV hE0
    go_enter Tryd.func3, Tryd.ntmps3
    go_wp2_with fail
    refine (C1.out _ (by repeat (first | exact Below.refl _ _ | assumption | refine Below.setCell ?_ (by first | (simp; done) | (simp; omega) | omega) _ | refine Below.drew ?_ | refine below_drewN ?_ _ | refine Below.alloc ?_ (by first | (simp; done) | (simp; omega) | omega) _ | refine below_alloc ?_ _ | refine below_step ?_ (by assumption)))).mono ?_
    rintro e w1 ⟨⟨v1, rfl, ho1⟩, hb⟩
    obtain ⟨A1, k1, rfl, hm1, hm2, hR1, -⟩ := own_joints ho1
    have HR1 := Lib.hid hR1
    have HB1 := Lib.hid hb
    have hs1 := hb.size
    clear ho1 hR1 hb
    go_wp2_with fail
    refine (C2.out _).mono ?_
    rintro e w2 ⟨⟨v2, rfl, ho2⟩, hb⟩
    obtain ⟨A2, k2, rfl, hm3, hm4, hR2, -⟩ := own_joints ho2
    have HR2 := Lib.hid hR2
    have HR3 := Lib.hid ((HR1.out.below hb).more hb.size)
    have HB2 := Lib.hid (below_step HB1.out hb)
    have hs2 := hb.size
    clear ho2 hR2 hb HR1 HB1
    have hVl : V.length ≤ 9223372036854775807 := by unfold maxLen at hm2; omega
    have CS := Lib.hid (Same_any A1 V.length k1 A2 k2 V w2 hVl HR3.out HR2.out)
    go_wp2_with fail
    refine CS.out.mono ?_
    rintro e w3 ⟨rfl, hb⟩
    have HB3 := Lib.hid (below_step HB2.out hb)
    have HR4 := Lib.hid ((HR3.out.below hb).more hb.size)
    have hs3 := hb.size
    clear hb CS HR3 HR2
    by_cases hE : E = 0
    · have hF := HQ.out hE
      have CF := Lib.hid (Format_any A1 V.length k1 V w3 (HT.out.b HB3.out) hVl HR4.out)
      rw [hF] at CF
      subst hE
      clear hF HQ HE
      go_wp2_with fail
      refine CF.out.mono ?_
      rintro e w4 ⟨rfl, hb⟩
      have HB4 := Lib.hid (below_step HB3.out hb)
      have hs4 := hb.size
      clear hb CF HR4
      go_wp2_with fail
      refine (C3.out _ (by repeat (first | exact Below.refl _ _ | assumption | refine Below.setCell ?_ (by first | (simp; done) | (simp; omega) | omega) _ | refine Below.drew ?_ | refine below_drewN ?_ _ | refine Below.alloc ?_ (by first | (simp; done) | (simp; omega) | omega) _ | refine below_alloc ?_ _ | refine below_step ?_ (by assumption)))).mono ?_
      rintro e w5 ⟨rfl, hb⟩
      have HB5 := Lib.hid (below_step HB4.out hb)
      have hs5 := hb.size
      have HT5 := Lib.hid (HT.out.b HB5.out)
      clear hb C3
      go_wp2_with fail
      refine (C4.out _ (by repeat (first | exact Below.refl _ _ | assumption | refine Below.setCell ?_ (by first | (simp; done) | (simp; omega) | omega) _ | refine Below.drew ?_ | refine below_drewN ?_ _ | refine Below.alloc ?_ (by first | (simp; done) | (simp; omega) | omega) _ | refine below_alloc ?_ _ | refine below_step ?_ (by assumption)))).mono ?_
      rintro e w6 ⟨rfl, hb⟩
      have HB6 := Lib.hid (below_step HB5.out hb)
      have hs6 := hb.size
      clear hb C4
      go_wp2_with fail
      refine (C5.out _ (by repeat (first | exact Below.refl _ _ | assumption | refine Below.setCell ?_ (by first | (simp; done) | (simp; omega) | omega) _ | refine Below.drew ?_ | refine below_drewN ?_ _ | refine Below.alloc ?_ (by first | (simp; done) | (simp; omega) | omega) _ | refine below_alloc ?_ _ | refine below_step ?_ (by assumption)))).mono ?_
      rintro e w7 ⟨rfl, hb⟩
      have HB7 := Lib.hid (below_step HB6.out hb)
      have hs7 := hb.size
      clear hb C5
      by_cases hv : vJ l = true
      · obtain ⟨r1, r2, r3⟩ := back_eq hv
        have c6 := fun W (h : Tab W) => Parse_any (fmtL l) W h (by omega)
        rw [r1, r2] at c6
        have C6 := Lib.hid c6
        have HT7 := Lib.hid (HT.out.b HB7.out)
        have HX7 := Lib.hid ((HX.out.below HB7.out).more HB7.out.size)
        have hln : l.length = len := HX.out.1
        rw [hv]
        clear c6 r1 r2 hv
        generalize fmtL l = F at *
        go_wp2_with fail
        refine (C6.out _ HT7.out).mono ?_
        rintro e w8 ⟨⟨v8, rfl, ho8⟩, hb⟩
        rw [hln] at ho8
        obtain ⟨A8, k8, rfl, hm5, hm6, hR8, -⟩ := own_joints ho8
        have HB8 := Lib.hid (below_step HB7.out hb)
        have C8 := Lib.hid (Same_any A8 len k8 A cap l w8 (by omega) hR8 ((HX7.out.below hb).more hb.size))
        clear hb ho8 hR8 hln HX7 HT7 C6
        go_wp2_with fail
        refine C8.out.mono ?_
        rintro e w9 ⟨rfl, hb⟩
        have HB9 := Lib.hid (below_step HB8.out hb)
        clear hb C8
        go_wp2_with fail
        refine (awake_any _).mono ?_
        rintro e w10 ⟨rfl, hb⟩
        have HB10 := Lib.hid (below_step HB9.out hb)
        clear hb
        go_wp2
        go_ret
        exact ⟨rfl, HB10.out⟩
      · have hv : vJ l = false := by simpa using hv
        rw [hv]
        generalize fmtL l = F at *
        go_wp2_with fail
        refine (awake_any _).mono ?_
        rintro e w8 ⟨rfl, hb⟩
        have HB8 := Lib.hid (below_step HB7.out hb)
        clear hb
        go_wp2
        go_ret
        exact ⟨rfl, HB8.out⟩
    · have hEb : (E == 0) = false := by rw [beq_eq_false_iff_ne]; exact hE
      clear HR4 HQ
      go_wp2_with fail
      refine (C3.out _ (by repeat (first | exact Below.refl _ _ | assumption | refine Below.setCell ?_ (by first | (simp; done) | (simp; omega) | omega) _ | refine Below.drew ?_ | refine below_drewN ?_ _ | refine Below.alloc ?_ (by first | (simp; done) | (simp; omega) | omega) _ | refine below_alloc ?_ _ | refine below_step ?_ (by assumption)))).mono ?_
      rintro e w5 ⟨rfl, hb⟩
      have HB5 := Lib.hid (below_step HB3.out hb)
      have hs5 := hb.size
      have HT5 := Lib.hid (HT.out.b HB5.out)
      clear hb C3
      go_wp2_with fail
      refine (C4.out _ (by repeat (first | exact Below.refl _ _ | assumption | refine Below.setCell ?_ (by first | (simp; done) | (simp; omega) | omega) _ | refine Below.drew ?_ | refine below_drewN ?_ _ | refine Below.alloc ?_ (by first | (simp; done) | (simp; omega) | omega) _ | refine below_alloc ?_ _ | refine below_step ?_ (by assumption)))).mono ?_
      rintro e w6 ⟨rfl, hb⟩
      have HB6 := Lib.hid (below_step HB5.out hb)
      have hs6 := hb.size
      clear hb C4
      go_wp2_with fail
      refine (C5.out _ (by repeat (first | exact Below.refl _ _ | assumption | refine Below.setCell ?_ (by first | (simp; done) | (simp; omega) | omega) _ | refine Below.drew ?_ | refine below_drewN ?_ _ | refine Below.alloc ?_ (by first | (simp; done) | (simp; omega) | omega) _ | refine below_alloc ?_ _ | refine below_step ?_ (by assumption)))).mono ?_
      rintro e w7 ⟨rfl, hb⟩
      have HB7 := Lib.hid (below_step HB6.out hb)
      have hs7 := hb.size
      clear hb C5
      by_cases hv : vJ l = true
      · obtain ⟨r1, r2, r3⟩ := back_eq hv
        have c6 := fun W (h : Tab W) => Parse_any (fmtL l) W h (by omega)
        rw [r1, r2] at c6
        have C6 := Lib.hid c6
        have HT7 := Lib.hid (HT.out.b HB7.out)
        have HX7 := Lib.hid ((HX.out.below HB7.out).more HB7.out.size)
        have hln : l.length = len := HX.out.1
        rw [hv]
        clear c6 r1 r2 hv
        generalize fmtL l = F at *
        go_wp2_with fail
        refine (C6.out _ HT7.out).mono ?_
        rintro e w8 ⟨⟨v8, rfl, ho8⟩, hb⟩
        rw [hln] at ho8
        obtain ⟨A8, k8, rfl, hm5, hm6, hR8, -⟩ := own_joints ho8
        have HB8 := Lib.hid (below_step HB7.out hb)
        have C8 := Lib.hid (Same_any A8 len k8 A cap l w8 (by omega) hR8 ((HX7.out.below hb).more hb.size))
        clear hb ho8 hR8 hln HX7 HT7 C6
        go_wp2_with fail
        refine C8.out.mono ?_
        rintro e w9 ⟨rfl, hb⟩
        have HB9 := Lib.hid (below_step HB8.out hb)
        clear hb C8
        go_wp2_with fail
        refine (awake_any _).mono ?_
        rintro e w10 ⟨rfl, hb⟩
        have HB10 := Lib.hid (below_step HB9.out hb)
        clear hb
        go_wp2
        go_ret
        exact ⟨rfl, HB10.out⟩
      · have hv : vJ l = false := by simpa using hv
        rw [hv]
        generalize fmtL l = F at *
        go_wp2_with fail
        refine (awake_any _).mono ?_
        rintro e w8 ⟨rfl, hb⟩
        have HB8 := Lib.hid (below_step HB7.out hb)
        clear hb
        go_wp2
        go_ret
        exact ⟨rfl, HB8.out⟩
theorem texts_row (A : Option Addr) (len cap : Nat) (l : List J) (s : ByteArray) (w : World) (hm : len ≤ cap ∧ cap ≤ 9223372036854775807) (hx : Rows 2 jointV dJ w w.heap.size A len l) (_ : ∀ x ∈ l, -9223372036854775808 ≤ x.1 ∧ x.1 ≤ 9223372036854775807) (hs : s.size ≤ 9223372036854775807) (htab : Tab w) :
    Calls Tryd.prog 3 #[.slice A len cap, .string s] w fun e w' => e = .returned (.bool true) ∧ Below w.heap.size w w' := by
  have e : s = ⟨s.data.toList.toArray⟩ := by simp
  have hl : s.data.toList.length = s.size := by show s.data.toList.length = s.data.size; simp
  rw [e]
  exact texts_walk A len cap l s.data.toList w htab hm hx (by omega)
end Go.Proofs.YtjgibipficojaaaDoor
