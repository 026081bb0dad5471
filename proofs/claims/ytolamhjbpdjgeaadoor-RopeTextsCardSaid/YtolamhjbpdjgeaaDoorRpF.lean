/- RopeTexts: written, and both Formats. -/
import Derived.Test.YtolamhjbpdjgeaaDoorRpM
import Derived.Test.YtolamhjbpdjgeaaDoorTxtA
import Derived.Test.YtolamhjbpdjgeaaDoorMix
set_option linter.unusedSimpArgs false
set_option linter.unusedVariables false
namespace Go.Proofs.YtolamhjbpdjgeaaDoor
open Go.RowKit
attribute [local go_sem] Later.cell Same.cell

theorem itoa_len64 {n : Int} (h1 : -9223372036854775808 ≤ n) (h2 : n ≤ 9223372036854775807) : (Lib.itoa n).length ≤ 20 := by
  by_cases hn : n < 0
  · obtain ⟨m, rfl⟩ : ∃ m : Nat, n = -(m : Int) := ⟨n.natAbs, by omega⟩
    rw [itoa_neg (by omega)]
    have := (dec_facts 18 m (by omega)).2.2.1
    simp; omega
  · obtain ⟨m, rfl⟩ : ∃ m : Nat, n = (m : Int) := ⟨n.toNat, by omega⟩
    rw [itoa_nat]
    have := (dec_facts 18 m (by omega)).2.2.1
    omega
theorem ints2_new (w : World) (x y : Int) (t : TypeId) : Ints (w.alloc (.cells #[.int .i64 x, .int .i64 y] t)).drew (w.alloc (.cells #[.int .i64 x, .int .i64 y] t)).drew.heap.size (some ⟨w.heap.size, 0, none⟩) 2 [x, y] := by
  refine ⟨rfl, fun _ => ⟨w.heap.size, 0, rfl, by simp, fun k hk => ?_⟩⟩
  rcases k with _ | _ | k
  · simp
  · simp
  · omega
theorem listL_two (x y : Int) : listL [x, y] = 32 :: fmtU1 (x, y) := by simp [listL, fmtU1]
/-- The first k lines. -/
def fmtUk (us : List (Int × Int)) (k : Nat) : List UInt8 := fmtUs (us.take k)
theorem fmtUk_succ {us : List (Int × Int)} {k : Nat} (h : k < us.length) : fmtUk us (k + 1) = fmtUk us k ++ fmtU1 (us[k]?.getD (0, 0)) ++ [10] := by
  unfold fmtUk
  rw [List.take_succ_eq_append_getElem h, fmtUs_snoc, List.getElem?_eq_getElem h, List.append_assoc]
  rfl
theorem fmtUk_len {us : List (Int × Int)} (h : goodU us = true) (k : Nat) : (fmtUk us k).length ≤ 8000 := by
  have hl := fmtUs_len (us.take k) (fun x hx => goodU_mem h (List.mem_of_mem_take hx))
  have h5 := (goodU_spec h).1
  rw [List.length_take] at hl
  unfold fmtUk; omega
set_option maxRecDepth 20000 in
set_option maxHeartbeats 4000000 in
theorem written_any (d l : Int) (w : World) (h : Tab w) (hd1 : -9223372036854775808 ≤ d) (hd2 : d ≤ 9223372036854775807) (hl1 : -9223372036854775808 ≤ l) (hl2 : l ≤ 9223372036854775807) :
    Calls Tryd.prog 15 #[.agg #[.int .i64 d, .int .i64 l]] w fun e w' => e = .returned (.string ⟨(fmtU1 (d, l)).toArray⟩) ∧ Below w.heap.size w w' := by
  have HT : Hid (Tab (w.alloc (.cells #[.int .i64 d, .int .i64 l] 46))) := Lib.hid (h.below (below_alloc (Below.refl _ _) _))
  have hD := itoa_len64 hd1 hd2
  have hL := itoa_len64 hl1 hl2
  have hF : fmtU1 (d, l) = Lib.itoa d ++ [32] ++ Lib.itoa l := by simp [fmtU1]
  have C1 := Lib.hid (fun (W : World) (hW : Tab W) => itoa_any d W hW hd1 hd2)
  have C2 := Lib.hid (fun (W : World) (hW : Tab W) => itoa_any l W hW hl1 hl2)
  rw [hF]
  clear hF h
  generalize Lib.itoa d = D at *
  generalize Lib.itoa l = L at *
  obtain ⟨S1, hS1⟩ : ∃ S1, S1 = D ++ [32] := ⟨_, rfl⟩
  obtain ⟨S2, hS2⟩ : ∃ S2, S2 = S1 ++ L := ⟨_, rfl⟩
  have hzD : (⟨D.toArray⟩ : ByteArray).size = D.length := rfl
  have hzL : (⟨L.toArray⟩ : ByteArray).size = L.length := rfl
  have hzS1 : (⟨S1.toArray⟩ : ByteArray).size = S1.length := rfl
  have hl1' : S1.length = D.length + 1 := by rw [hS1]; simp
  have HS : Hid (D ++ [32] ++ L = S2) := Lib.hid (by rw [hS2, hS1])
  have hap1 : (⟨D.toArray⟩ : ByteArray) ++ ⟨#[32]⟩ = ⟨S1.toArray⟩ := by rw [hS1]; exact str_app D [32]
  have hap2 : (⟨S1.toArray⟩ : ByteArray) ++ ⟨L.toArray⟩ = ⟨S2.toArray⟩ := by rw [hS2]; exact str_app S1 L
  rw [HS.out]
  clear hS1 hS2 HS
  go_enter Tryd.func15, Tryd.ntmps15
  go_wp2
  (refine wp_region_later (by kernel_rfl) (by kernel_rfl) ?_; (repeat (go_big_quiet_step ((first | (go_at_call 30; exact later_call (C1.out _ (HT.out.below (Later.h _)))) | (go_at_call 30; exact later_call (C2.out _ (HT.out.below (Later.h _)))))))); refine wpQuiet_nil ?_)
  intro w3 hb
  go_wp2
  go_ret
  exact ⟨rfl, (below_alloc (Below.refl _ _) _).trans (hb.mono (by simp))⟩
set_option maxRecDepth 20000 in
set_option maxHeartbeats 4000000 in
theorem Format_any (A : Option Addr) (len cap : Nat) (us : List (Int × Int)) (w : World) (htab : Tab w) (hm : len ≤ 9223372036854775807) (hx : Pairs w w.heap.size A len us) :
    Calls Tryd.prog 8 #[.slice A len cap] w fun e w' => e = .returned (.string ⟨(fmtU us).toArray⟩) ∧ Below w.heap.size w w' := by
  have c1 := ValidUses_any A len cap us w hm hx
  by_cases hv : goodU us = true
  · rw [hv] at c1
    have hF : fmtU us = fmtUk us len := by unfold fmtU fmtUk; rw [if_pos hv, ← hx.1, List.take_length]
    rw [hF]
    have hl : len ≤ 500 := by have := (goodU_spec hv).1; rw [hx.1] at this; exact this
    have HB := Lib.hid (goodU_spec hv).2.1
    have HK := Lib.hid (fun k (hk : k < len) => fmtUk_succ (us := us) (k := k) (by rw [hx.1]; exact hk))
    have HN := Lib.hid (fun k => fmtUk_len hv k)
    have HLn := Lib.hid hx.1
    have C1 := Lib.hid c1
    have HX := Lib.hid hx
    have HT := Lib.hid htab
    clear c1 hx hv hF htab
    go_enter Tryd.func8, Tryd.ntmps8
    go_wp2_with fail
    refine C1.out.mono ?_
    rintro e w1 ⟨rfl, hb1⟩
    have HB1 := Lib.hid hb1
    clear hb1 C1
    go_wp2
    go_loopw [3, 11] (fun s i wr => ∃ k : Nat, k ≤ len ∧ i = .int .i64 (k : Int) ∧ s = .string ⟨(fmtUk us k).toArray⟩ ∧ Below w.heap.size w wr) (fun _ i _ => len - (intOf i).toNat)
    case atStart => exact ⟨0, Nat.zero_le _, rfl, rfl, HB1.out⟩
    case round =>
      obtain ⟨k, hk, rfl, rfl, hB⟩ := hrel
      have hsz := hB.size
      by_cases hlt : k < len
      · obtain ⟨b, off, rfl, hb0, hc1, hc2⟩ := (HX.out.below hB).at_ k hlt
        have hbl : b < wr.heap.size := by omega
        have hlt1 : (k : Int) < len := by omega
        have hS := HK.out k hlt
        have hN := HN.out k
        have hbd := HB.out k (by rw [HLn.out]; exact hlt)
        have hFl := fmtU1_len (x := us[k]?.getD (0, 0)) hbd.1 hbd.2
        have C2 := Lib.hid (fun (W : World) (hW : Tab W) => written_any (us[k]?.getD (0, 0)).1 (us[k]?.getD (0, 0)).2 W hW (by omega) (by omega) (by omega) (by omega))
        clear hbd
        obtain ⟨SX, hSX⟩ : ∃ SX, SX = fmtUk us (k + 1) := ⟨_, rfl⟩
        rw [← hSX] at hS
        have HSX := Lib.hid hSX
        clear hSX
        rw [show ((us[k]?.getD (0, 0)).1, (us[k]?.getD (0, 0)).2) = us[k]?.getD (0, 0) from rfl] at C2
        generalize fmtUk us k = S at *
        generalize us[k]?.getD (0, 0) = X at *
        obtain ⟨X1, X2⟩ := X
        dsimp only at hc1 hc2 C2
        generalize fmtU1 (X1, X2) = F at *
        obtain ⟨S1, hS1⟩ : ∃ S1, S1 = F ++ [10] := ⟨_, rfl⟩
        obtain ⟨S2, hS2⟩ : ∃ S2, S2 = S ++ S1 := ⟨_, rfl⟩
        have hzS : (⟨S.toArray⟩ : ByteArray).size = S.length := rfl
        have hzF : (⟨F.toArray⟩ : ByteArray).size = F.length := rfl
        have hzS1 : (⟨S1.toArray⟩ : ByteArray).size = S1.length := rfl
        have hl1 : S1.length = F.length + 1 := by rw [hS1]; simp
        have HS : Hid (Value.string ⟨S2.toArray⟩ = .string ⟨SX.toArray⟩) := Lib.hid (by rw [hS, hS2, hS1, List.append_assoc])
        have hap1 : (⟨F.toArray⟩ : ByteArray) ++ ⟨#[10]⟩ = ⟨S1.toArray⟩ := by rw [hS1]; exact str_app F [10]
        have hap2 : (⟨S.toArray⟩ : ByteArray) ++ ⟨S1.toArray⟩ = ⟨S2.toArray⟩ := by rw [hS2]; exact str_app S S1
        clear hS hS1 hS2
        go_wp2_with fail
        refine (C2.out _ (HT.out.below (by repeat (first | exact Below.refl _ _ | assumption | refine Below.setCell ?_ (by first | (simp; done) | (simp; omega) | omega) _ | refine Below.drew ?_ | refine below_drewN ?_ _ | refine Below.alloc ?_ (by first | (simp; done) | (simp; omega) | omega) _ | refine below_alloc ?_ _ | refine below_step ?_ (by assumption))))).mono ?_
        rintro e w2 ⟨rfl, hb2⟩
        have HB2 := Lib.hid (below_step (below_alloc hB (.cells #[.int .i64 X1, .int .i64 X2] 46)) hb2)
        clear hb2 hc1 hc2 C2 hB
        go_wp2
        go_roundw
        case rel => exact ⟨k + 1, by omega, by first | rfl | go_num, HS.out.trans (by rw [HSX.out]), HB2.out⟩
        case measure => simp [intOf]; omega
      · have hkl : k = len := by omega
        have hk9 : ¬ (k : Int) < len := by omega
        have HR : Hid (Value.string ⟨(fmtUk us k).toArray⟩ = .string ⟨(fmtUk us len).toArray⟩) := Lib.hid (by rw [hkl])
        clear hkl
        go_wp2
        go_ret
        exact ⟨ret1 HR.out, hB⟩
  · have hv : goodU us = false := by simpa using hv
    rw [hv] at c1
    have hF : fmtU us = [] := by unfold fmtU; rw [if_neg (by rw [hv]; simp)]
    rw [hF]
    have C1 := Lib.hid c1
    clear c1 hx hv hF
    go_enter Tryd.func8, Tryd.ntmps8
    go_wp2_with fail
    refine C1.out.mono ?_
    rintro e w1 ⟨rfl, hb1⟩
    go_wp2
    go_ret
    exact ⟨rfl, hb1⟩
set_option maxRecDepth 20000 in
set_option maxHeartbeats 4000000 in
theorem rFormat_any (A : Option Addr) (len cap : Nat) (us : List (Int × Int)) (w : World) (hm : len ≤ 9223372036854775807) (hx : Pairs w w.heap.size A len us) :
    Calls Tryd.prog 9 #[.slice A len cap] w fun e w' => e = .returned (.string ⟨(fmtU us).toArray⟩) ∧ Below w.heap.size w w' := by
  have c1 := rValidUses_any A len cap us w hm hx
  by_cases hv : goodU us = true
  · rw [hv] at c1
    have hF : fmtU us = fmtUk us len := by unfold fmtU fmtUk; rw [if_pos hv, ← hx.1, List.take_length]
    rw [hF]
    have hl : len ≤ 500 := by have := (goodU_spec hv).1; rw [hx.1] at this; exact this
    have HB := Lib.hid (goodU_spec hv).2.1
    have HK := Lib.hid (fun k (hk : k < len) => fmtUk_succ (us := us) (k := k) (by rw [hx.1]; exact hk))
    have HN := Lib.hid (fun k => fmtUk_len hv k)
    have HLn := Lib.hid hx.1
    have C1 := Lib.hid c1
    have HX := Lib.hid hx
    clear c1 hx hv hF
    go_enter Tryd.func9, Tryd.ntmps9
    go_wp2_with fail
    refine C1.out.mono ?_
    rintro e w1 ⟨rfl, hb1⟩
    have HB1 := Lib.hid hb1
    clear hb1 C1
    go_wp2
    go_loopw [3, 4] (fun s i wr => ∃ k : Nat, k ≤ len ∧ i = .int .i64 (k : Int) ∧ s = .string ⟨(fmtUk us k).toArray⟩ ∧ Below w.heap.size w wr) (fun _ i _ => len - (intOf i).toNat)
    case atStart => exact ⟨0, Nat.zero_le _, rfl, rfl, HB1.out⟩
    case round =>
      obtain ⟨k, hk, rfl, rfl, hBw⟩ := hrel
      have hsz := hBw.size
      by_cases hlt : k < len
      · obtain ⟨b, off, rfl, hb0, hc1, hc2⟩ := (HX.out.below hBw).at_ k hlt
        have hbl : b < wr.heap.size := by omega
        have hlt1 : (k : Int) < len := by omega
        have hk2 : ¬ len ≤ k := by omega
        have hS := HK.out k hlt
        have hN := HN.out k
        have hbd := HB.out k (by rw [HLn.out]; exact hlt)
        have hFl := fmtU1_len (x := us[k]?.getD (0, 0)) hbd.1 hbd.2
        obtain ⟨SX, hSX⟩ : ∃ SX, SX = fmtUk us (k + 1) := ⟨_, rfl⟩
        rw [← hSX] at hS
        have HSX := Lib.hid hSX
        clear hSX
        generalize fmtUk us k = S at *
        generalize us[k]?.getD (0, 0) = X at *
        obtain ⟨X1, X2⟩ := X
        dsimp only at hc1 hc2 hbd
        have C2 := Lib.hid (fun (W : World) A' (hW : Ints W W.heap.size A' 2 [X1, X2]) => Listed_any A' 2 2 [X1, X2] W (by omega) hW (by intro x hx; simp at hx; rcases hx with rfl | rfl <;> omega))
        clear hbd
        rw [listL_two] at C2
        generalize fmtU1 (X1, X2) = F at *
        obtain ⟨L, hL⟩ : ∃ L, L = 32 :: F := ⟨_, rfl⟩
        rw [← hL] at C2
        obtain ⟨S1, hS1⟩ : ∃ S1, S1 = S ++ F := ⟨_, rfl⟩
        obtain ⟨S2, hS2⟩ : ∃ S2, S2 = S1 ++ [10] := ⟨_, rfl⟩
        have hzL : (⟨L.toArray⟩ : ByteArray).size = F.length + 1 := by rw [hL]; rfl
        have hex : (⟨L.toArray⟩ : ByteArray).extract 1 (F.length + 1) = ⟨F.toArray⟩ := by rw [str_ext, hL]; simp
        have hzS : (⟨S.toArray⟩ : ByteArray).size = S.length := rfl
        have hzF : (⟨F.toArray⟩ : ByteArray).size = F.length := rfl
        have hzS1 : (⟨S1.toArray⟩ : ByteArray).size = S1.length := rfl
        have hl1 : S1.length = S.length + F.length := by rw [hS1]; simp
        have HS : Hid (Value.string ⟨S2.toArray⟩ = .string ⟨SX.toArray⟩) := Lib.hid (by rw [hS, hS2, hS1])
        have hap1 : (⟨S.toArray⟩ : ByteArray) ++ ⟨F.toArray⟩ = ⟨S1.toArray⟩ := by rw [hS1]; exact str_app S F
        have hap2 : (⟨S1.toArray⟩ : ByteArray) ++ ⟨#[10]⟩ = ⟨S2.toArray⟩ := by rw [hS2]; exact str_app S1 [10]
        clear hS hS1 hS2 hL
        go_wp2_with fail
        refine wp_region_mix (by kernel_rfl) (by kernel_rfl) ?_
        refine wpC_take (f := 6) (by kernel_rfl) (by kernel_rfl) ⟨⟨_, (Below.refl _ _).drew⟩, rfl⟩ [0, 1, 2, 3, 4, 5, 6, 7, 8, 9, 10] _ _ (by kernel_rfl) ?_
        simp only [List.map_cons, List.map_nil, List.getElem?_toArray, List.getElem?_cons_succ, List.getElem?_cons_zero, Option.getD_some]
        repeat (go_big_quiet_step (fail))
        refine wpQuiet_nil ?_
        refine wpC_all (rs := [11]) (by kernel_rfl) (by decide) ?_
        intro i hi
        simp only [List.mem_cons, List.not_mem_nil, or_false] at hi
        subst hi
        refine ⟨_, rfl, ?_⟩
        go_simp
        have hI := ints2_new wr X1 X2 3
        have hB : Below wr.heap.size wr (wr.alloc (.cells #[.int .i64 X1, .int .i64 X2] 3)).drew := ((Below.refl _ wr).alloc (Nat.le_refl _) _).drew
        generalize (wr.alloc (.cells #[.int .i64 X1, .int .i64 X2] 3)).drew = WW0 at *
        refine ⟨⟨⟨_, hB⟩, rfl⟩, ?_⟩
        refine wpC_all (rs := [12]) (by kernel_rfl) (by decide) ?_
        intro i hi
        simp only [List.mem_cons, List.not_mem_nil, or_false] at hi
        subst hi
        refine ⟨_, rfl, ?_⟩
        go_simp
        refine (C2.out _ _ hI).mono ?_
        rintro e WW1 ⟨rfl, hb9⟩
        replace hB := below_step hB hb9
        clear hb9 hI
        refine ⟨⟨⟨_, hB⟩, rfl⟩, ?_⟩
        go_simp
        refine wpC_take (f := 0) (by kernel_rfl) (by kernel_rfl) ⟨⟨_, hB⟩, rfl⟩ [13, 14, 15, 16] _ _ (by kernel_rfl) ?_
        simp only [List.map_cons, List.map_nil, List.getElem?_toArray, List.getElem?_cons_succ, List.getElem?_cons_zero, Option.getD_some]
        repeat (go_big_quiet_step (fail))
        refine wpQuiet_nil ?_
        refine wpC_done (by kernel_rfl) ?_
        have HB2 := Lib.hid (below_step hBw hB)
        clear hB hBw
        go_wp2
        go_roundw
        case rel => exact ⟨k + 1, by omega, by first | rfl | go_num, HS.out.trans (by rw [HSX.out]), HB2.out⟩
        case measure => simp [intOf]; omega
      · have hkl : k = len := by omega
        have hk9 : ¬ (k : Int) < len := by omega
        have HR : Hid (Value.string ⟨(fmtUk us k).toArray⟩ = .string ⟨(fmtUk us len).toArray⟩) := Lib.hid (by rw [hkl])
        clear hkl
        go_wp2
        go_ret
        exact ⟨ret1 HR.out, hBw⟩
  · have hv : goodU us = false := by simpa using hv
    rw [hv] at c1
    have hF : fmtU us = [] := by unfold fmtU; rw [if_neg (by rw [hv]; simp)]
    rw [hF]
    have C1 := Lib.hid c1
    clear c1 hx hv hF
    go_enter Tryd.func9, Tryd.ntmps9
    go_wp2_with fail
    refine C1.out.mono ?_
    rintro e w1 ⟨rfl, hb1⟩
    go_wp2
    go_ret
    exact ⟨rfl, hb1⟩
end Go.Proofs.YtolamhjbpdjgeaaDoor
