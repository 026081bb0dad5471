/- Ladder's Format: both texts. -/
import Derived.Test.YtjgibipficojaaaDoorLTxtM
import Derived.Test.YtjgibipficojaaaDoorDogs2
set_option linter.unusedSimpArgs false
set_option linter.unusedVariables false
namespace Go.Proofs.YtjgibipficojaaaDoor
open Go.RowKit
attribute [local go_sem] Later.cell
set_option maxRecDepth 20000 in
set_option maxHeartbeats 4000000 in
theorem rFormat_any (A : Option Addr) (len cap : Nat) (l : List J) (w : World) (hm : len ≤ 9223372036854775807) (hx : Rows 2 jointV dJ w w.heap.size A len l) :
    Calls Tryd.prog 9 #[.slice A len cap] w fun e w' => e = .returned (.string ⟨(fmtL l).toArray⟩) ∧ Below w.heap.size w w' := by
  have c1 := fun W (h : Below w.heap.size w W) => rVJoints_any A len cap l W hm ((hx.below h).more h.size)
  by_cases hv : vJ l = true
  · rw [hv] at c1
    have hF : fmtL l = fmtK l len := by unfold fmtL; rw [if_pos hv, hx.1]
    rw [hF]
    have hl : len ≤ 200 := by have := (vJ_spec hv).1; rw [hx.1] at this; exact this
    have HB := Lib.hid (vJ_spec hv).2.1
    have HK := Lib.hid (fun k (hk : k < len) => fmtK_succ (l := l) (k := k) (by rw [hx.1]; exact hk))
    have HN := Lib.hid (fun k (hk : k ≤ len) => fmtK_len hv k (by rw [hx.1]; exact hk))
    have HLn := Lib.hid hx.1
    have C1 := Lib.hid c1
    have HX := Lib.hid hx
    clear c1 hx hv hF
    go_enter Tryd.func9, Tryd.ntmps9
    go_wp2_with fail
    refine (C1.out _ (by repeat (first | exact Below.refl _ _ | assumption | refine Below.setCell ?_ (by first | (simp; done) | (simp; omega) | omega) _ | refine Below.drew ?_ | refine below_drewN ?_ _ | refine Below.alloc ?_ (by first | (simp; done) | (simp; omega) | omega) _ | refine below_alloc ?_ _ | refine below_step ?_ (by assumption)))).mono ?_
    rintro e w1 ⟨rfl, hb1⟩
    have HB1 := Lib.hid hb1
    clear hb1 C1
    go_wp2
    go_loopw [3, 4] (fun s i wr => ∃ k : Nat, k ≤ len ∧ i = .int .i64 (k : Int) ∧ s = .string ⟨(fmtK l k).toArray⟩ ∧ Below w.heap.size w wr) (fun _ i _ => len - (intOf i).toNat)
    case atStart => exact ⟨0, Nat.zero_le _, rfl, rfl, HB1.out⟩
    case round =>
      obtain ⟨k, hk, rfl, rfl, hB⟩ := hrel
      have hsz := hB.size
      by_cases hlt : k < len
      · obtain ⟨b, off, rfl, hb0, hc1, hc2⟩ := (HX.out.below hB).atJ k hlt
        have hbl : b < wr.heap.size := by omega
        have hlt1 : (k : Int) < len := by omega
        have hS : fmtK l (k + 1) = fmtK l k ++ sepK k ++ Lib.itoa (hgt l k) ++ bang (sndB l k) := HK.out k hlt
        have hN := HN.out k hk
        have hbd := HB.out k (by rw [HLn.out]; exact hlt)
        have hD := itoa_len_s (n := hgt l k) (by omega) (by omega)
        have C2 := Lib.hid (fun W => digits_any (hgt l k) W (by omega) (by omega))
        clear hbd
        obtain ⟨SX, hSX⟩ : ∃ SX, SX = fmtK l (k + 1) := ⟨_, rfl⟩
        rw [← hSX] at hS
        have HSX := Lib.hid hSX
        clear hSX
        generalize fmtK l k = S at *
        generalize Lib.itoa (hgt l k) = D at *
        generalize hgt l k = X at *
        generalize sndB l k = Y at *
        obtain ⟨S1, hS1⟩ : ∃ S1, S1 = S ++ [32] := ⟨_, rfl⟩
        have hzS : (⟨S.toArray⟩ : ByteArray).size = S.length := rfl
        have hzS1 : (⟨S1.toArray⟩ : ByteArray).size = S1.length := rfl
        have hzD : (⟨D.toArray⟩ : ByteArray).size = D.length := rfl
        have hl1 : S1.length = S.length + 1 := by rw [hS1]; simp
        rcases Nat.eq_zero_or_pos k with rfl | hk0
        · simp only [Nat.zero_mul, Nat.add_zero] at hc1 hc2
          obtain ⟨S2, hS2⟩ : ∃ S2, S2 = S ++ D := ⟨_, rfl⟩
          obtain ⟨S3, hS3⟩ : ∃ S3, S3 = S2 ++ [33] := ⟨_, rfl⟩
          have hzS2 : (⟨S2.toArray⟩ : ByteArray).size = S2.length := rfl
          have hl2 : S2.length = S.length + D.length := by rw [hS2]; simp
          cases Y
          · have HS : Hid (Value.string ⟨S3.toArray⟩ = .string ⟨SX.toArray⟩) := Lib.hid (by rw [hS, hS3, hS2]; simp [sepK, bang])
            clear hS
            have hap2 : (⟨S.toArray⟩ : ByteArray) ++ ⟨D.toArray⟩ = ⟨S2.toArray⟩ := by rw [hS2]; exact str_app S D
            have hap3 : (⟨S2.toArray⟩ : ByteArray) ++ ⟨#[33]⟩ = ⟨S3.toArray⟩ := by rw [hS3]; exact str_app S2 [33]
            clear hS1 hS2 hS3
            go_wp2_with fail
            refine (C2.out _).mono ?_
            rintro e w2 ⟨rfl, hb2⟩
            have hsz2 := hb2.size
            have HB2 := Lib.hid (below_step hB hb2)
            have hd1 := (hb2.cell (p := ⟨b, off, none⟩) hbl).trans hc1
            have hd2 := (hb2.cell (p := ⟨b, off + 1, none⟩) hbl).trans hc2
            clear hb2 hc1 hc2 C2 hB
            go_wp2
            go_roundw
            case rel => exact ⟨0 + 1, by omega, by first | rfl | go_num, HS.out.trans (by rw [HSX.out]), HB2.out⟩
            case measure => simp [intOf]; omega
          · have HS : Hid (Value.string ⟨S2.toArray⟩ = .string ⟨SX.toArray⟩) := Lib.hid (by rw [hS, hS2]; simp [sepK, bang])
            clear hS
            have hap2 : (⟨S.toArray⟩ : ByteArray) ++ ⟨D.toArray⟩ = ⟨S2.toArray⟩ := by rw [hS2]; exact str_app S D
            clear hS1 hS2 hS3
            go_wp2_with fail
            refine (C2.out _).mono ?_
            rintro e w2 ⟨rfl, hb2⟩
            have hsz2 := hb2.size
            have HB2 := Lib.hid (below_step hB hb2)
            have hd1 := (hb2.cell (p := ⟨b, off, none⟩) hbl).trans hc1
            have hd2 := (hb2.cell (p := ⟨b, off + 1, none⟩) hbl).trans hc2
            clear hb2 hc1 hc2 C2 hB
            go_wp2
            go_roundw
            case rel => exact ⟨0 + 1, by omega, by first | rfl | go_num, HS.out.trans (by rw [HSX.out]), HB2.out⟩
            case measure => simp [intOf]; omega
        · obtain ⟨S2, hS2⟩ : ∃ S2, S2 = S1 ++ D := ⟨_, rfl⟩
          obtain ⟨S3, hS3⟩ : ∃ S3, S3 = S2 ++ [33] := ⟨_, rfl⟩
          have hzS2 : (⟨S2.toArray⟩ : ByteArray).size = S2.length := rfl
          have hl2 : S2.length = S1.length + D.length := by rw [hS2]; simp
          have hkp : (0 : Int) < k := by omega
          have hsp : sepK k = [32] := by unfold sepK; rw [if_neg (by omega)]
          rw [hsp] at hS
          clear hsp
          cases Y
          · have HS : Hid (Value.string ⟨S3.toArray⟩ = .string ⟨SX.toArray⟩) := Lib.hid (by rw [hS, hS3, hS2, hS1]; simp [sepK, bang])
            clear hS
            have hap1 : (⟨S.toArray⟩ : ByteArray) ++ ⟨#[32]⟩ = ⟨S1.toArray⟩ := by rw [hS1]; exact str_app S [32]
            have hap2 : (⟨S1.toArray⟩ : ByteArray) ++ ⟨D.toArray⟩ = ⟨S2.toArray⟩ := by rw [hS2]; exact str_app S1 D
            have hap3 : (⟨S2.toArray⟩ : ByteArray) ++ ⟨#[33]⟩ = ⟨S3.toArray⟩ := by rw [hS3]; exact str_app S2 [33]
            clear hS1 hS2 hS3
            go_wp2_with fail
            refine (C2.out _).mono ?_
            rintro e w2 ⟨rfl, hb2⟩
            have hsz2 := hb2.size
            have HB2 := Lib.hid (below_step hB hb2)
            have hd1 := (hb2.cell (p := ⟨b, off + k * 2, none⟩) hbl).trans hc1
            have hd2 := (hb2.cell (p := ⟨b, off + k * 2 + 1, none⟩) hbl).trans hc2
            clear hb2 hc1 hc2 C2 hB
            go_wp2
            go_roundw
            case rel => exact ⟨k + 1, by omega, by first | rfl | go_num, HS.out.trans (by rw [HSX.out]), HB2.out⟩
            case measure => simp [intOf]; omega
          · have HS : Hid (Value.string ⟨S2.toArray⟩ = .string ⟨SX.toArray⟩) := Lib.hid (by rw [hS, hS2, hS1]; simp [sepK, bang])
            clear hS
            have hap1 : (⟨S.toArray⟩ : ByteArray) ++ ⟨#[32]⟩ = ⟨S1.toArray⟩ := by rw [hS1]; exact str_app S [32]
            have hap2 : (⟨S1.toArray⟩ : ByteArray) ++ ⟨D.toArray⟩ = ⟨S2.toArray⟩ := by rw [hS2]; exact str_app S1 D
            clear hS1 hS2 hS3
            go_wp2_with fail
            refine (C2.out _).mono ?_
            rintro e w2 ⟨rfl, hb2⟩
            have hsz2 := hb2.size
            have HB2 := Lib.hid (below_step hB hb2)
            have hd1 := (hb2.cell (p := ⟨b, off + k * 2, none⟩) hbl).trans hc1
            have hd2 := (hb2.cell (p := ⟨b, off + k * 2 + 1, none⟩) hbl).trans hc2
            clear hb2 hc1 hc2 C2 hB
            go_wp2
            go_roundw
            case rel => exact ⟨k + 1, by omega, by first | rfl | go_num, HS.out.trans (by rw [HSX.out]), HB2.out⟩
            case measure => simp [intOf]; omega
      · have hkl : k = len := by omega
        have hk9 : ¬ (k : Int) < len := by omega
        have HR : Hid (Value.string ⟨(fmtK l k).toArray⟩ = .string ⟨(fmtK l len).toArray⟩) := Lib.hid (by rw [hkl])
        clear hkl
        go_wp2
        go_ret
        exact ⟨ret1 HR.out, hB⟩
  · have hv : vJ l = false := by simpa using hv
    rw [hv] at c1
    have hF : fmtL l = [] := by unfold fmtL; rw [if_neg (by rw [hv]; simp)]
    rw [hF]
    have C1 := Lib.hid c1
    clear c1 hx hv hF
    go_enter Tryd.func9, Tryd.ntmps9
    go_wp2_with fail
    refine (C1.out _ (by repeat (first | exact Below.refl _ _ | assumption | refine Below.setCell ?_ (by first | (simp; done) | (simp; omega) | omega) _ | refine Below.drew ?_ | refine below_drewN ?_ _ | refine Below.alloc ?_ (by first | (simp; done) | (simp; omega) | omega) _ | refine below_alloc ?_ _ | refine below_step ?_ (by assumption)))).mono ?_
    rintro e w1 ⟨rfl, hb1⟩
    go_wp2
    go_ret
    exact ⟨rfl, hb1⟩
end Go.Proofs.YtjgibipficojaaaDoor
