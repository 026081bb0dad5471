/- TapeTexts: words, and both Formats. -/
import Derived.Test.YthpbkbbmedpecaaDoorTpM
import Derived.Test.YthpbkbbmedpecaaDoorTxtA
import Derived.Test.YthpbkbbmedpecaaDoorMix
import Derived.Test.YthpbkbbmedpecaaDoorRVal
set_option linter.unusedSimpArgs false
set_option linter.unusedVariables false
namespace Go.Proofs.YthpbkbbmedpecaaDoor
open Go.RowKit
attribute [local go_sem] Later.cell Same.cell

theorem ints1_new (w : World) (x : Int) (t : TypeId) : Ints (w.alloc (.cells #[.int .i64 x] t)) (w.alloc (.cells #[.int .i64 x] t)).heap.size (some ⟨w.heap.size, 0, none⟩) 1 [x] := by
  refine ⟨rfl, fun _ => ⟨w.heap.size, 0, rfl, by simp, fun k hk => ?_⟩⟩
  rcases k with _ | k
  · simp
  · omega
theorem ints3_new (w : World) (x y z : Int) (t : TypeId) : Ints (w.alloc (.cells #[.int .i64 x, .int .i64 y, .int .i64 z] t)) (w.alloc (.cells #[.int .i64 x, .int .i64 y, .int .i64 z] t)).heap.size (some ⟨w.heap.size, 0, none⟩) 3 [x, y, z] := by
  refine ⟨rfl, fun _ => ⟨w.heap.size, 0, rfl, by simp, fun k hk => ?_⟩⟩
  rcases k with _ | _ | _ | k
  · simp
  · simp
  · simp
  · omega
theorem ints_drew {w : World} {B : Nat} {A : Option Addr} {len : Nat} {xs : List Int} (h : Ints w B A len xs) : Ints w.drew B A len xs := h
/-- The text of the first k tapes. -/
def fmtNk (n : Int) (l : List Tp) (k : Nat) : List UInt8 := headT n ++ fmtTs (l.take k)
theorem fmtNk_succ {n : Int} {l : List Tp} {k : Nat} (h : k < l.length) : fmtNk n l (k + 1) = fmtNk n l k ++ lineT (l[k]?.getD (0, 0, 0)) := by
  unfold fmtNk fmtTs
  rw [List.take_succ_eq_append_getElem h, List.flatMap_append, List.append_assoc, List.getElem?_eq_getElem h, List.flatMap_cons, List.flatMap_nil, List.append_nil]
  rfl
theorem fmtNk_len {n : Int} {l : List Tp} (h : vNet n l = true) (k : Nat) : (fmtNk n l k).length ≤ 1000 := by
  have hb := vNet_bd h
  have h1 := fmtTs_len (l.take k) (fun t ht => hb.2.2 t (List.mem_of_mem_take ht))
  have h2 := headT_len (n := n) (by omega)
  rw [List.length_take] at h1
  unfold fmtNk
  rw [List.length_append]; omega
theorem fmtNk_nil (n : Int) (l : List Tp) : fmtNk n l 0 = headT n := by simp [fmtNk, fmtTs]
theorem fmtNk_all {n : Int} {l : List Tp} {len : Nat} (h : vNet n l = true) (hl : l.length = len) : fmtNet n l = fmtNk n l len := by
  unfold fmtNet fmtNk
  rw [if_pos h, ← hl, List.take_length]
set_option maxRecDepth 20000 in
set_option maxHeartbeats 4000000 in
theorem wordsP_any (W : List UInt8) (A : Option Addr) (len cap : Nat) (xs : List Int) (w : World) (htab : Tab w) (hm : len ≤ 1000000) (hW : W.length ≤ 1000000) (hx : Ints w w.heap.size A len xs) (hxb : ∀ x ∈ xs, -9223372036854775808 ≤ x ∧ x ≤ 9223372036854775807) :
    Calls Tryd.prog 18 #[.string ⟨W.toArray⟩, .slice A len cap] w fun e w' => e = .returned (.string ⟨(wordsT W xs).toArray⟩) ∧ Below w.heap.size w w' := by
  have HN := Lib.hid (fun k (hk : k ≤ len) => listL_len64 (xs.take k) (fun x hx => hxb x (List.mem_of_mem_take hx)))
  have HLn := Lib.hid hx.1
  have HK := Lib.hid (fun k (hk : k < len) => listL_succ (xs := xs) (k := k) (by rw [hx.1]; exact hk))
  have HB := Lib.hid (fun k (hk : k < len) => hxb (xs[k]?.getD 0) (by
    have : k < xs.length := by rw [hx.1]; exact hk
    rw [List.getElem?_eq_getElem this]; exact List.getElem_mem _))
  have HF : Hid (wordsT W xs = wordsT W (xs.take len)) := Lib.hid (by rw [← hx.1, List.take_length])
  have HX := Lib.hid hx
  have HT := Lib.hid htab
  have H0 : Hid (Value.string ⟨W.toArray⟩ = .string ⟨(wordsT W (xs.take 0)).toArray⟩) := Lib.hid (by simp [wordsT, listL])
  clear hx hxb htab
  go_enter Tryd.func18, Tryd.ntmps18
  go_wp2
  go_loopw [0, 9] (fun s i wr => ∃ k : Nat, k ≤ len ∧ i = .int .i64 (k : Int) ∧ s = .string ⟨(wordsT W (xs.take k)).toArray⟩ ∧ Below w.heap.size w wr) (fun _ i _ => len - (intOf i).toNat)
  case atStart => exact ⟨0, Nat.zero_le _, rfl, H0.out, Below.refl _ _⟩
  case round =>
    obtain ⟨k, hk, rfl, rfl, hB⟩ := hrel
    have hsz := hB.size
    by_cases hlt : k < len
    · obtain ⟨b, off, rfl, hb0, hc1⟩ := (HX.out.below hB).at_ k hlt
      have hbl : b < wr.heap.size := by omega
      have hlt1 : (k : Int) < len := by omega
      have hS : wordsT W (xs.take (k + 1)) = wordsT W (xs.take k) ++ ([32] ++ Lib.itoa (xs[k]?.getD 0)) := by unfold wordsT; rw [HK.out k hlt]; simp
      have hN := HN.out k hk
      have hbd := HB.out k hlt
      have hD := itoa_len64 hbd.1 hbd.2
      have C2 := Lib.hid (fun (W : World) (h : Tab W) => itoa_any (xs[k]?.getD 0) W h hbd.1 hbd.2)
      rw [List.length_take] at hN
      have hNl : (wordsT W (xs.take k)).length ≤ 1000000 + 21 * len := by unfold wordsT; rw [List.length_append]; omega
      clear hbd hN
      obtain ⟨SX, hSX⟩ : ∃ SX, SX = wordsT W (xs.take (k + 1)) := ⟨_, rfl⟩
      rw [← hSX] at hS
      have HSX := Lib.hid hSX
      clear hSX
      generalize wordsT W (xs.take k) = S at *
      generalize Lib.itoa (xs[k]?.getD 0) = D at *
      generalize xs[k]?.getD 0 = X at *
      obtain ⟨S1, hS1⟩ : ∃ S1, S1 = [32] ++ D := ⟨_, rfl⟩
      obtain ⟨S2, hS2⟩ : ∃ S2, S2 = S ++ S1 := ⟨_, rfl⟩
      have hzS : (⟨S.toArray⟩ : ByteArray).size = S.length := rfl
      have hzS1 : (⟨S1.toArray⟩ : ByteArray).size = S1.length := rfl
      have hzD : (⟨D.toArray⟩ : ByteArray).size = D.length := rfl
      have hl1 : S1.length = D.length + 1 := by rw [hS1]; simp
      have HS : Hid (Value.string ⟨S2.toArray⟩ = .string ⟨SX.toArray⟩) := Lib.hid (by rw [hS, hS2, hS1])
      have hap1 : (⟨#[32]⟩ : ByteArray) ++ ⟨D.toArray⟩ = ⟨S1.toArray⟩ := by rw [hS1]; exact str_app [32] D
      have hap2 : (⟨S.toArray⟩ : ByteArray) ++ ⟨S1.toArray⟩ = ⟨S2.toArray⟩ := by rw [hS2]; exact str_app S S1
      have hz32 : (⟨#[32]⟩ : ByteArray).size = 1 := rfl
      clear hS hS1 hS2
      go_wp2_with fail
      refine (C2.out _ (HT.out.below (by repeat (first | exact Below.refl _ _ | assumption | refine Below.setCell ?_ (by first | (simp; done) | (simp; omega) | omega) _ | refine Below.drew ?_ | refine below_drewN ?_ _ | refine Below.alloc ?_ (by first | (simp; done) | (simp; omega) | omega) _ | refine below_alloc ?_ _ | refine below_step ?_ (by assumption))))).mono ?_
      rintro e w2 ⟨rfl, hb2⟩
      have HB2 := Lib.hid (below_step hB hb2)
      clear hb2 hc1 C2 hB
      go_wp2
      go_roundw
      case rel => exact ⟨k + 1, by omega, by first | rfl | go_num, HS.out.trans (by rw [HSX.out]), HB2.out⟩
      case measure => simp [intOf]; omega
    · have hkl : k = len := by omega
      have hk9 : ¬ (k : Int) < len := by omega
      have HR : Hid (Value.string ⟨(wordsT W (xs.take k)).toArray⟩ = .string ⟨(wordsT W xs).toArray⟩) := Lib.hid (by rw [HF.out, hkl])
      clear hkl
      go_wp2
      go_ret
      exact ⟨ret1 HR.out, hB⟩
set_option maxRecDepth 20000 in
set_option maxHeartbeats 4000000 in
theorem Format_any (n : Int) (A : Option Addr) (len cap : Nat) (l : List Tp) (w : World) (htab : Tab w) (hm : len ≤ 9223372036854775807) (hx : Rows 3 int3 (0,0,0) w w.heap.size A len l) :
    Calls Tryd.prog 9 #[.int .i64 n, .slice A len cap] w fun e w' => e = .returned (.string ⟨(fmtNet n l).toArray⟩) ∧ Below w.heap.size w w' := by
  have c1 := Valid_any n A len cap l w hm hx
  by_cases hv : vNet n l = true
  · rw [hv] at c1
    rw [fmtNk_all hv hx.1]
    have hl : len ≤ 10 := by have := (vNet_bd hv).2.1; rw [hx.1] at this; exact this
    have hnb := (vNet_bd hv).1
    have HB := Lib.hid (fun k (hk : k < len) => (vNet_bd hv).2.2 (l[k]?.getD (0,0,0)) (hx.mem hk))
    have HK := Lib.hid (fun k (hk : k < len) => fmtNk_succ (n := n) (l := l) (k := k) (by rw [hx.1]; exact hk))
    have HN := Lib.hid (fun k => fmtNk_len hv k)
    have CH := Lib.hid (fun (W : World) A' (h : Tab W) (hi : Ints W W.heap.size A' 1 [n]) => wordsP_any nodesW A' 1 1 [n] W h (by omega) (by decide) hi (by intro x hx; rw [List.mem_singleton.1 hx]; omega))
    have HH : Hid (fmtNk n l 0 = wordsT nodesW [n] ++ [10]) := Lib.hid (fmtNk_nil n l)
    have HLH := Lib.hid (headT_len (n := n) (by omega))
    have HLn := Lib.hid hx.1
    have C1 := Lib.hid c1
    have HX := Lib.hid hx
    have HT := Lib.hid htab
    obtain ⟨N0, hN0⟩ : ∃ N0, N0 = wordsT nodesW [n] := ⟨_, rfl⟩
    have hN0l : N0.length ≤ 30 := by
      have := HLH.out
      unfold headT at this
      rw [← hN0, List.length_append] at this; omega
    rw [← hN0] at CH HH
    obtain ⟨N1, hN1⟩ : ∃ N1, N1 = N0 ++ [10] := ⟨_, rfl⟩
    have hzN0 : (⟨N0.toArray⟩ : ByteArray).size = N0.length := rfl
    have hapN : (⟨N0.toArray⟩ : ByteArray) ++ ⟨#[10]⟩ = ⟨N1.toArray⟩ := by rw [hN1]; exact str_app N0 [10]
    have H0 : Hid (Value.string ⟨N1.toArray⟩ = .string ⟨(fmtNk n l 0).toArray⟩) := Lib.hid (by rw [HH.out, hN1])
    have hz10 : (⟨#[10]⟩ : ByteArray).size = 1 := rfl
    clear c1 hx hv htab hN0 hN1 HH HLH
    go_enter Tryd.func9, Tryd.ntmps9
    go_wp2_with fail
    refine C1.out.mono ?_
    rintro e w1 ⟨rfl, hb1⟩
    have HB1 := Lib.hid hb1
    clear hb1 C1
    go_wp2_with fail
    refine (CH.out _ _ (HT.out.below (below_alloc HB1.out _)) (ints1_new _ _ _)).mono ?_
    rintro e w2 ⟨rfl, hb2⟩
    have HB2 := Lib.hid (below_step (below_alloc HB1.out (.cells #[.int .i64 n] 3)) hb2)
    clear hb2 CH HB1
    go_wp2
    go_loopw [5, 18] (fun s i wr => ∃ k : Nat, k ≤ len ∧ i = .int .i64 (k : Int) ∧ s = .string ⟨(fmtNk n l k).toArray⟩ ∧ Below w.heap.size w wr) (fun _ i _ => len - (intOf i).toNat)
    case atStart => exact ⟨0, Nat.zero_le _, rfl, H0.out, HB2.out⟩
    case round =>
      obtain ⟨k, hk, rfl, rfl, hB⟩ := hrel
      clear HB2 H0 hapN hzN0 hN0l
      have hsz := hB.size
      by_cases hlt : k < len
      · obtain ⟨b, off, rfl, hb0, hc1, hc2, hc3⟩ := (HX.out.below hB).at3 k hlt
        have hbl : b < wr.heap.size := by omega
        have hlt1 : (k : Int) < len := by omega
        have hS := HK.out k hlt
        have hN := HN.out k
        have hbd := HB.out k hlt
        have hFl := lineT_len hbd
        obtain ⟨SX, hSX⟩ : ∃ SX, SX = fmtNk n l (k + 1) := ⟨_, rfl⟩
        rw [← hSX] at hS
        have HSX := Lib.hid hSX
        clear hSX
        generalize fmtNk n l k = S at *
        generalize l[k]?.getD (0, 0, 0) = X at *
        obtain ⟨X1, X2, X3⟩ := X
        dsimp only at hc1 hc2 hc3 hbd
        have C2 := Lib.hid (fun (W : World) A' (h : Tab W) (hi : Ints W W.heap.size A' 3 [X1, X2, X3]) => wordsP_any tapeW A' 3 3 [X1, X2, X3] W h (by omega) (by decide) hi (by
          intro x hx
          simp only [List.mem_cons, List.not_mem_nil, or_false] at hx
          rcases hx with rfl | rfl | rfl <;> omega))
        clear hbd
        unfold lineT at hS hFl
        dsimp only at hS hFl
        generalize wordsT tapeW [X1, X2, X3] = F at *
        rw [List.length_append] at hFl
        obtain ⟨S1, hS1⟩ : ∃ S1, S1 = F ++ [10] := ⟨_, rfl⟩
        obtain ⟨S2, hS2⟩ : ∃ S2, S2 = S ++ S1 := ⟨_, rfl⟩
        have hzS : (⟨S.toArray⟩ : ByteArray).size = S.length := rfl
        have hzF : (⟨F.toArray⟩ : ByteArray).size = F.length := rfl
        have hzS1 : (⟨S1.toArray⟩ : ByteArray).size = S1.length := rfl
        have hl1 : S1.length = F.length + 1 := by rw [hS1]; simp
        have HS : Hid (Value.string ⟨S2.toArray⟩ = .string ⟨SX.toArray⟩) := Lib.hid (by rw [hS, hS2, hS1])
        have hap1 : (⟨F.toArray⟩ : ByteArray) ++ ⟨#[10]⟩ = ⟨S1.toArray⟩ := by rw [hS1]; exact str_app F [10]
        have hap2 : (⟨S.toArray⟩ : ByteArray) ++ ⟨S1.toArray⟩ = ⟨S2.toArray⟩ := by rw [hS2]; exact str_app S S1
        clear hS hS1 hS2
        go_wp2_with fail
        have HBa := Lib.hid (below_alloc (below_alloc hB (.cells #[.int .i64 X1, .int .i64 X2, .int .i64 X3] 34)) (.cells #[.int .i64 X1, .int .i64 X2, .int .i64 X3] 3))
        have hI := ints3_new (wr.alloc (.cells #[.int .i64 X1, .int .i64 X2, .int .i64 X3] 34)) X1 X2 X3 3
        have hze : (wr.alloc (.cells #[.int .i64 X1, .int .i64 X2, .int .i64 X3] 34)).heap.size = wr.heap.size + 1 := by simp
        rw [hze] at hI
        refine (C2.out _ _ (HT.out.below HBa.out) hI).mono ?_
        rintro e w2 ⟨rfl, hb2⟩
        have HB2 := Lib.hid (below_step HBa.out hb2)
        clear hb2 hc1 hc2 hc3 C2 hB hI hze HBa
        go_wp2
        go_roundw
        case rel => exact ⟨k + 1, by omega, by first | rfl | go_num, HS.out.trans (by rw [HSX.out]), HB2.out⟩
        case measure => simp [intOf]; omega
      · have hkl : k = len := by omega
        have hk9 : ¬ (k : Int) < len := by omega
        have HR : Hid (Value.string ⟨(fmtNk n l k).toArray⟩ = .string ⟨(fmtNk n l len).toArray⟩) := Lib.hid (by rw [hkl])
        clear hkl
        go_wp2
        go_ret
        exact ⟨ret1 HR.out, hB⟩
  · have hv : vNet n l = false := by simpa using hv
    rw [hv] at c1
    rw [fmtNet_ne.2 hv]
    have C1 := Lib.hid c1
    clear c1 hx hv
    go_enter Tryd.func9, Tryd.ntmps9
    go_wp2_with fail
    refine C1.out.mono ?_
    rintro e w1 ⟨rfl, hb1⟩
    go_wp2
    go_ret
    exact ⟨rfl, hb1⟩
set_option maxRecDepth 20000 in
set_option maxHeartbeats 4000000 in
theorem rFormat_any (n : Int) (A : Option Addr) (len cap : Nat) (l : List Tp) (w : World) (hm : len ≤ 9223372036854775807) (hx : Rows 3 int3 (0,0,0) w w.heap.size A len l) :
    Calls Tryd.prog 10 #[.int .i64 n, .slice A len cap] w fun e w' => e = .returned (.string ⟨(fmtNet n l).toArray⟩) ∧ Below w.heap.size w w' := by
  have c1 := rValid_any n A len cap l w hm hx
  by_cases hv : vNet n l = true
  · rw [hv] at c1
    rw [fmtNk_all hv hx.1]
    have hl : len ≤ 10 := by have := (vNet_bd hv).2.1; rw [hx.1] at this; exact this
    have hnb := (vNet_bd hv).1
    have HB := Lib.hid (fun k (hk : k < len) => (vNet_bd hv).2.2 (l[k]?.getD (0,0,0)) (hx.mem hk))
    have HK := Lib.hid (fun k (hk : k < len) => fmtNk_succ (n := n) (l := l) (k := k) (by rw [hx.1]; exact hk))
    have HN := Lib.hid (fun k => fmtNk_len hv k)
    have CH := Lib.hid (fun (W : World) => digits_any n W (by omega) (by omega))
    have hDl := itoa_len64 (n := n) (by omega) (by omega)
    have HH : Hid (fmtNk n l 0 = [110, 111, 100, 101, 115, 32] ++ Lib.itoa n ++ [10]) := Lib.hid (by rw [fmtNk_nil]; simp [headT, wordsT, nodesW, listL])
    have HLn := Lib.hid hx.1
    have C1 := Lib.hid c1
    have HX := Lib.hid hx
    generalize Lib.itoa n = D0 at *
    obtain ⟨N0, hN0⟩ : ∃ N0, N0 = [110, 111, 100, 101, 115, 32] ++ D0 := ⟨_, rfl⟩
    obtain ⟨N1, hN1⟩ : ∃ N1, N1 = N0 ++ [10] := ⟨_, rfl⟩
    have hN0l : N0.length = D0.length + 6 := by rw [hN0]; simp
    have hzD0 : (⟨D0.toArray⟩ : ByteArray).size = D0.length := rfl
    have hzN0 : (⟨N0.toArray⟩ : ByteArray).size = N0.length := rfl
    have hz6 : (⟨#[110, 111, 100, 101, 115, 32]⟩ : ByteArray).size = 6 := rfl
    have hapM : (⟨#[110, 111, 100, 101, 115, 32]⟩ : ByteArray) ++ ⟨D0.toArray⟩ = ⟨N0.toArray⟩ := by rw [hN0]; exact str_app [110, 111, 100, 101, 115, 32] D0
    have hapN : (⟨N0.toArray⟩ : ByteArray) ++ ⟨#[10]⟩ = ⟨N1.toArray⟩ := by rw [hN1]; exact str_app N0 [10]
    have H0 : Hid (Value.string ⟨N1.toArray⟩ = .string ⟨(fmtNk n l 0).toArray⟩) := Lib.hid (by rw [HH.out, hN1, hN0])
    have hz10 : (⟨#[10]⟩ : ByteArray).size = 1 := rfl
    clear c1 hx hv hN0 hN1 HH
    go_enter Tryd.func10, Tryd.ntmps10
    go_wp2_with fail
    refine C1.out.mono ?_
    rintro e w1 ⟨rfl, hb1⟩
    have HB1 := Lib.hid hb1
    clear hb1 C1
    go_wp2_with fail
    refine (CH.out _).mono ?_
    rintro e w2 ⟨rfl, hb2⟩
    have HB2 := Lib.hid (below_step HB1.out hb2)
    clear hb2 CH HB1
    go_wp2
    go_loopw [5, 6] (fun s i wr => ∃ k : Nat, k ≤ len ∧ i = .int .i64 (k : Int) ∧ s = .string ⟨(fmtNk n l k).toArray⟩ ∧ Below w.heap.size w wr) (fun _ i _ => len - (intOf i).toNat)
    case atStart => exact ⟨0, Nat.zero_le _, rfl, H0.out, HB2.out⟩
    case round =>
      obtain ⟨k, hk, rfl, rfl, hBw⟩ := hrel
      clear HB2 H0 hapN hapM hzN0 hN0l hzD0 hDl hz6
      have hsz := hBw.size
      by_cases hlt : k < len
      · obtain ⟨b, off, rfl, hb0, hc1, hc2, hc3⟩ := (HX.out.below hBw).at3 k hlt
        have hbl : b < wr.heap.size := by omega
        have hlt1 : (k : Int) < len := by omega
        have hk2 : ¬ len ≤ k := by omega
        have hS := HK.out k hlt
        have hN := HN.out k
        have hbd := HB.out k hlt
        have hFl := lineT_len hbd
        obtain ⟨SX, hSX⟩ : ∃ SX, SX = fmtNk n l (k + 1) := ⟨_, rfl⟩
        rw [← hSX] at hS
        have HSX := Lib.hid hSX
        clear hSX
        generalize fmtNk n l k = S at *
        generalize l[k]?.getD (0, 0, 0) = X at *
        obtain ⟨X1, X2, X3⟩ := X
        dsimp only at hc1 hc2 hc3 hbd
        have C2 := Lib.hid (fun (W : World) A' (hi : Ints W W.heap.size A' 3 [X1, X2, X3]) => Listed_any A' 3 3 [X1, X2, X3] W (by omega) hi (by
          intro x hx
          simp only [List.mem_cons, List.not_mem_nil, or_false] at hx
          rcases hx with rfl | rfl | rfl <;> omega))
        clear hbd
        unfold lineT wordsT at hS hFl
        dsimp only at hS hFl
        generalize listL [X1, X2, X3] = F at *
        simp only [List.length_append] at hFl
        obtain ⟨S1, hS1⟩ : ∃ S1, S1 = S ++ [116, 97, 112, 101] := ⟨_, rfl⟩
        obtain ⟨S2, hS2⟩ : ∃ S2, S2 = S1 ++ F := ⟨_, rfl⟩
        obtain ⟨S3, hS3⟩ : ∃ S3, S3 = S2 ++ [10] := ⟨_, rfl⟩
        have hzS : (⟨S.toArray⟩ : ByteArray).size = S.length := rfl
        have hzF : (⟨F.toArray⟩ : ByteArray).size = F.length := rfl
        have hzS1 : (⟨S1.toArray⟩ : ByteArray).size = S1.length := rfl
        have hzS2 : (⟨S2.toArray⟩ : ByteArray).size = S2.length := rfl
        have hz4 : (⟨#[116, 97, 112, 101]⟩ : ByteArray).size = 4 := rfl
        have hl1 : S1.length = S.length + 4 := by rw [hS1]; simp
        have hl2 : S2.length = S1.length + F.length := by rw [hS2]; simp
        have HS : Hid (Value.string ⟨S3.toArray⟩ = .string ⟨SX.toArray⟩) := Lib.hid (by rw [hS, hS3, hS2, hS1]; simp [tapeW])
        have hap1 : (⟨S.toArray⟩ : ByteArray) ++ ⟨#[116, 97, 112, 101]⟩ = ⟨S1.toArray⟩ := by rw [hS1]; exact str_app S [116, 97, 112, 101]
        have hap2 : (⟨S1.toArray⟩ : ByteArray) ++ ⟨F.toArray⟩ = ⟨S2.toArray⟩ := by rw [hS2]; exact str_app S1 F
        have hap3 : (⟨S2.toArray⟩ : ByteArray) ++ ⟨#[10]⟩ = ⟨S3.toArray⟩ := by rw [hS3]; exact str_app S2 [10]
        clear hS hS1 hS2 hS3
        go_wp2_with fail
        refine wp_region_mix (by kernel_rfl) (by kernel_rfl) ?_
        refine wpC_take (f := 5) (by kernel_rfl) (by kernel_rfl) ⟨⟨_, (Below.refl _ _).drew⟩, rfl⟩ [0, 1, 2, 3, 4, 5, 6, 7, 8, 9, 10, 11, 12, 13, 14, 15, 16] _ _ (by kernel_rfl) ?_
        simp only [List.map_cons, List.map_nil, List.getElem?_toArray, List.getElem?_cons_succ, List.getElem?_cons_zero, Option.getD_some]
        repeat (go_big_quiet_step (fail))
        refine wpQuiet_nil ?_
        refine wpC_all (rs := [17]) (by kernel_rfl) (by decide) ?_
        intro i hi
        simp only [List.mem_cons, List.not_mem_nil, or_false] at hi
        subst hi
        refine ⟨_, rfl, ?_⟩
        go_simp
        have hI : Ints (wr.alloc (.cells #[.int .i64 X1, .int .i64 X2, .int .i64 X3] 3)).drew (wr.alloc (.cells #[.int .i64 X1, .int .i64 X2, .int .i64 X3] 3)).drew.heap.size (some ⟨wr.heap.size, 0, none⟩) 3 [X1, X2, X3] := ints3_new wr X1 X2 X3 3
        have hB : Below wr.heap.size wr (wr.alloc (.cells #[.int .i64 X1, .int .i64 X2, .int .i64 X3] 3)).drew := ((Below.refl _ wr).alloc (Nat.le_refl _) _).drew
        generalize (wr.alloc (.cells #[.int .i64 X1, .int .i64 X2, .int .i64 X3] 3)).drew = WW0 at *
        refine ⟨⟨⟨_, hB⟩, rfl⟩, ?_⟩
        refine wpC_all (rs := [18]) (by kernel_rfl) (by decide) ?_
        intro i hi
        simp only [List.mem_cons, List.not_mem_nil, or_false] at hi
        subst hi
        refine ⟨_, rfl, ?_⟩
        go_simp
        refine (C2.out _ _ hI).mono ?_
        rintro e WW1 ⟨rfl, hb9⟩
        replace hB := below_step hB hb9
        clear hb9 hI
        refine ⟨⟨⟨_, hB⟩, rfl⟩, ?_⟩
        go_simp
        refine wpC_take (f := 0) (by kernel_rfl) (by kernel_rfl) ⟨⟨_, hB⟩, rfl⟩ [19, 20, 21] _ _ (by kernel_rfl) ?_
        simp only [List.map_cons, List.map_nil, List.getElem?_toArray, List.getElem?_cons_succ, List.getElem?_cons_zero, Option.getD_some]
        repeat (go_big_quiet_step (fail))
        refine wpQuiet_nil ?_
        refine wpC_done (by kernel_rfl) ?_
        have HB2 := Lib.hid (below_step hBw hB)
        clear hB hBw
        go_wp2
        go_roundw
        case rel => exact ⟨k + 1, by omega, by first | rfl | go_num, HS.out.trans (by rw [HSX.out]), HB2.out⟩
        case measure => simp [intOf]; omega
      · have hkl : k = len := by omega
        have hk9 : ¬ (k : Int) < len := by omega
        have HR : Hid (Value.string ⟨(fmtNk n l k).toArray⟩ = .string ⟨(fmtNk n l len).toArray⟩) := Lib.hid (by rw [hkl])
        clear hkl
        go_wp2
        go_ret
        exact ⟨ret1 HR.out, hBw⟩
  · have hv : vNet n l = false := by simpa using hv
    rw [hv] at c1
    rw [fmtNet_ne.2 hv]
    have C1 := Lib.hid c1
    clear c1 hx hv
    go_enter Tryd.func10, Tryd.ntmps10
    go_wp2_with fail
    refine C1.out.mono ?_
    rintro e w1 ⟨rfl, hb1⟩
    go_wp2
    go_ret
    exact ⟨rfl, hb1⟩
end Go.Proofs.YthpbkbbmedpecaaDoor
