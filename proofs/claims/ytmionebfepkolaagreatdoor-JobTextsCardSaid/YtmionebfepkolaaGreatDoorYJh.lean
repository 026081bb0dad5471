/- Joined by merge.py from: JtF JtB JtG. -/
import Derived.Test.YtmionebfepkolaaGreatDoorJtM
import Derived.Test.YtmionebfepkolaaGreatDoorDig6
import Derived.Test.YtmionebfepkolaaGreatDoorJobR4
import Derived.Test.YtmionebfepkolaaGreatDoorProg
import Derived.Test.YtmionebfepkolaaGreatDoorBase
import Derived.Test.YtmionebfepkolaaGreatDoorYJb
import Derived.Test.YtmionebfepkolaaGreatDoorShelf
import Derived.Lib.Builder
import Derived.Lib.AppendStr
import Derived.Laws.Externs
import Derived.Laws.IdiomStrings
import Derived.Test.YtmionebfepkolaaGreatDoorYJj
import Derived.Test.YtmionebfepkolaaGreatDoorJobU2
import Derived.Test.YtmionebfepkolaaGreatDoorYJg
import Derived.Test.YtmionebfepkolaaGreatDoorYJc
set_option linter.unusedSimpArgs false
set_option linter.unusedVariables false
namespace Go.Proofs.YtmionebfepkolaaGreatDoor
open Go.RowKit
attribute [local go_sem] Later.cell
theorem joinTail_succ {r : List (List UInt8)} {k : Nat} (h : k < r.length) : Lib.joinTail [32] (r.take (k + 1)) = Lib.joinTail [32] (r.take k) ++ [32] ++ (r[k]?.getD []) := by
  have key : ∀ (a : List (List UInt8)) (y : List UInt8), Lib.joinTail [32] (a ++ [y]) = Lib.joinTail [32] a ++ [32] ++ y := by
    intro a y
    induction a with
    | nil => simp [Lib.joinTail]
    | cons z a ih => rw [List.cons_append, joinTail_cons, joinTail_cons, ih]; simp
  rw [List.take_succ_eq_append_getElem h, List.getElem?_eq_getElem h, key]
  rfl
theorem lineJ_tail (t : Tk) : lineJ t = lsj t.nm ++ [32] ++ Lib.itoa t.dy ++ [32] ++ Lib.itoa t.mn ++ Lib.joinTail [32] (t.af.map lsj) := by
  unfold lineJ
  rw [Lib.join_cons, joinTail_cons, joinTail_cons]
  simp
theorem af_at (ss : List ByteArray) (j : Nat) : ss[j]?.getD ByteArray.empty = ⟨(((ss.map lsj)[j]?.getD []).toArray)⟩ := by
  rw [List.getElem?_map]
  cases ss[j]? with
  | none => rfl
  | some x => exact (bsj_lsj x).symm
theorem joinTail_le19 {r : List (List UInt8)} (h : ∀ y ∈ r, y.length ≤ 16) (k : Nat) : (Lib.joinTail [32] (r.take k)).length ≤ 20 * k := by
  have := joinTail_le (r.take k) fun y hy => by have := h y (List.mem_of_mem_take hy); omega
  rw [List.length_take] at this
  omega
set_option maxRecDepth 20000 in
set_option maxHeartbeats 8000000 in
theorem rFormat_any (A : Option Addr) (len cap : Nat) (l : List Tk) (w : World) (hS : Sml l) (hx : Plan w w.heap.size A len l) :
    Calls Tryz.prog 9 #[.slice A len cap] w fun e w' => e = .returned (.string ⟨(fmtP l).toArray⟩) ∧ Below w.heap.size w w' := by
  have c1 := rCheck_any A len cap l w hS hx
  obtain rfl : l.length = len := hx.1
  by_cases hv : checkE l = 0
  · rw [hv] at c1
    have hP := check_spec hv
    rw [← fmtK_all hv]
    have hl := hP.len
    have HK := Lib.hid (fun k (hk : k < l.length) => (fmtK_succ hk).trans (by rw [lineJ_tail]))
    have HN := Lib.hid (fun k => fmtK_le hP k)
    have HT := Lib.hid (fun k (hk : k < l.length) => okP_tk hP (tkA l k) (tkA_mem hk))
    have C1 := Lib.hid c1
    have HX := Lib.hid hx
    clear c1 hx hv hP hS
    go_enter Tryz.func9, Tryz.ntmps9
    go_wp2_with fail
    refine C1.out.mono ?_
    rintro e w1 ⟨rfl, hb1⟩
    have HB1 := Lib.hid hb1
    clear hb1 C1
    go_wp2
    go_loopw [3, 4] (fun s i wr => ∃ k : Nat, k ≤ l.length ∧ i = .int .i64 (k : Int) ∧ s = .string ⟨(fmtK l k).toArray⟩ ∧ Below w.heap.size w wr) (fun _ i _ => l.length - (intOf i).toNat)
    case atStart => exact ⟨0, Nat.zero_le _, rfl, rfl, HB1.out⟩
    case round =>
      obtain ⟨k, hk, rfl, rfl, hB⟩ := hrel
      have hsz := hB.size
      by_cases hlt : k < l.length
      · obtain ⟨b, off, rfl, hb0, hc1, hc2, hc3, A', n, cc, hc4, hn1, hn2, hSt⟩ := (HX.out.below hB).at_ k hlt
        obtain rfl : (tkA l k).af.length = n := hSt.1
        obtain ⟨⟨ht1, ⟨ht2, ht3⟩, ht4, ht5⟩, ht6, ht7, ht8, ht9⟩ := HT.out k hlt
        have HSt := Lib.hid (hSt.more hsz)
        have hbl : b < wr.heap.size := by omega
        have hk1 : (k : Int) < l.length := by omega
        have hk2 : ¬ l.length ≤ k := by omega
        have hS := HK.out k hlt
        have hNl := HN.out k
        have hXl := ht9 _ (List.mem_cons_self ..)
        have hFl : ∀ y ∈ (tkA l k).af.map lsj, y.length ≤ 16 := fun y hy => by
          obtain ⟨x, hx, rfl⟩ := List.mem_map.1 hy
          exact ht9 x (List.mem_cons_of_mem _ hx)
        have hDl := itoa_len20 (n := (tkA l k).dy) (by omega) (by omega)
        have hEl := itoa_len20 (n := (tkA l k).mn) (by omega) (by omega)
        have C1 := Lib.hid (fun W => digits6_any (tkA l k).dy W (by omega) (by omega))
        have C2 := Lib.hid (fun W => digits6_any (tkA l k).mn W (by omega) (by omega))
        have hnm : (tkA l k).nm = ⟨(lsj (tkA l k).nm).toArray⟩ := (bsj_lsj _).symm
        rw [hnm] at hc1
        have hfl : ((tkA l k).af.map lsj).length = (tkA l k).af.length := List.length_map ..
        have HSA : Hid (∀ W, Below wr.heap.size wr W → ∀ j, j < (tkA l k).af.length → ∃ b2 off2, A' = some ⟨b2, off2, none⟩ ∧ b2 < wr.heap.size ∧ W.cell? ⟨b2, off2 + j, none⟩ = some (.string ⟨(((tkA l k).af.map lsj)[j]?.getD []).toArray⟩)) := Lib.hid (fun W hW j hj => by
          obtain ⟨b2, off2, e1, e2, e3⟩ := (HSt.out.below hW).atS j hj
          rw [af_at] at e3
          exact ⟨b2, off2, e1, e2, e3⟩)
        obtain ⟨SX, hSX⟩ : ∃ SX, SX = fmtK l (k + 1) := ⟨_, rfl⟩
        rw [← hSX] at hS
        have HSX := Lib.hid hSX
        clear hSX HSt ht1 ht2 ht3 ht4 ht5 ht7 ht8 ht9 hnm hSt
        have HSU := Lib.hid (fun j (hj : j < ((tkA l k).af.map lsj).length) => joinTail_succ hj)
        have HYL := Lib.hid (fun j => (show (((tkA l k).af.map lsj)[j]?.getD []).length ≤ 16 by
          by_cases hj : j < ((tkA l k).af.map lsj).length
          · rw [List.getElem?_eq_getElem hj]; exact hFl _ (List.getElem_mem hj)
          · rw [List.getElem?_eq_none (by omega)]; exact Nat.zero_le _))
        have HTL := Lib.hid (fun j => joinTail_le19 hFl j)
        have HTA : Hid (Lib.joinTail [32] ((tkA l k).af.map lsj) = Lib.joinTail [32] (((tkA l k).af.map lsj).take (tkA l k).af.length)) := Lib.hid (by rw [← hfl, List.take_length])
        rw [HTA.out] at hS
        clear HTA hFl
        generalize fmtK l k = S at *
        generalize lsj (tkA l k).nm = X at *
        generalize Lib.itoa (tkA l k).dy = D at *
        generalize Lib.itoa (tkA l k).mn = E at *
        generalize (tkA l k).dy = d at *
        generalize (tkA l k).mn = m at *
        generalize (tkA l k).af.map lsj = ts at *
        rw [hfl] at HSU
        generalize (tkA l k).af.length = q at *
        obtain ⟨S1, hS1⟩ : ∃ S1, S1 = S ++ X := ⟨_, rfl⟩
        obtain ⟨S2, hS2⟩ : ∃ S2, S2 = S1 ++ [32] := ⟨_, rfl⟩
        obtain ⟨S3, hS3⟩ : ∃ S3, S3 = S2 ++ D := ⟨_, rfl⟩
        obtain ⟨S4, hS4⟩ : ∃ S4, S4 = S3 ++ [32] := ⟨_, rfl⟩
        obtain ⟨S5, hS5⟩ : ∃ S5, S5 = S4 ++ E := ⟨_, rfl⟩
        have hzS : (⟨S.toArray⟩ : ByteArray).size = S.length := rfl
        have hzX : (⟨X.toArray⟩ : ByteArray).size = X.length := rfl
        have hzD : (⟨D.toArray⟩ : ByteArray).size = D.length := rfl
        have hzE : (⟨E.toArray⟩ : ByteArray).size = E.length := rfl
        have hzS1 : (⟨S1.toArray⟩ : ByteArray).size = S1.length := rfl
        have hzS2 : (⟨S2.toArray⟩ : ByteArray).size = S2.length := rfl
        have hzS3 : (⟨S3.toArray⟩ : ByteArray).size = S3.length := rfl
        have hzS4 : (⟨S4.toArray⟩ : ByteArray).size = S4.length := rfl
        have hl1 : S1.length = S.length + X.length := by rw [hS1]; simp
        have hl2 : S2.length = S1.length + 1 := by rw [hS2]; simp
        have hl3 : S3.length = S2.length + D.length := by rw [hS3]; simp
        have hl4 : S4.length = S3.length + 1 := by rw [hS4]; simp
        have hl5 : S5.length = S4.length + E.length := by rw [hS5]; simp
        have hap1 : (⟨S.toArray⟩ : ByteArray) ++ ⟨X.toArray⟩ = ⟨S1.toArray⟩ := by rw [hS1]; exact str_app S X
        have hap2 : (⟨S1.toArray⟩ : ByteArray) ++ ⟨#[32]⟩ = ⟨S2.toArray⟩ := by rw [hS2]; exact str_app S1 [32]
        have hap3 : (⟨S2.toArray⟩ : ByteArray) ++ ⟨D.toArray⟩ = ⟨S3.toArray⟩ := by rw [hS3]; exact str_app S2 D
        have hap4 : (⟨S3.toArray⟩ : ByteArray) ++ ⟨#[32]⟩ = ⟨S4.toArray⟩ := by rw [hS4]; exact str_app S3 [32]
        have hap5 : (⟨S4.toArray⟩ : ByteArray) ++ ⟨E.toArray⟩ = ⟨S5.toArray⟩ := by rw [hS5]; exact str_app S4 E
        have HS : Hid (S5 ++ Lib.joinTail [32] (ts.take q) ++ [10] = SX) := Lib.hid (by rw [hS, hS5, hS4, hS3, hS2, hS1]; simp)
        have h5l : S5.length ≤ 5300 := by omega
        have hq200 : q ≤ 10 := ht6
        have HCC := Lib.hid (And.intro hc1 (And.intro hc2 (And.intro hc3 hc4)))
        have HB := Lib.hid hB
        have HLL := Lib.hid hB
        clear hS hS1 hS2 hS3 hS4 hS5 hfl hB
        go_wp2
        (refine wp_region_later (by kernel_rfl) (by kernel_rfl) ?_; (repeat (go_big_quiet_step ((first | (go_at_call 30; with_reducible exact later_call (C1.out _)) | (go_at_call 30; with_reducible exact later_call (C2.out _)))))); refine wpQuiet_nil ?_)
        intro W1 hbW
        have HB2 := Lib.hid (below_step HB.out hbW)
        have HBW := Lib.hid hbW
        have k1 := (hbW.cell (p := ⟨b, off + k * 4 + 3, none⟩) hbl).trans HCC.out.2.2.2
        have hs1 := hbW.size
        clear hap1 hap2 hap3 hap4 hap5 hzS hzX hzD hzE hzS1 hzS2 hzS3 hzS4 hl1 hl2 hl3 hl4 hl5 hc1 hc2 hc3 hc4 hDl hEl hXl hbW C1 C2
        generalize wr = V0 at *
        go_wp2
        go_loopw [3, 5] (fun s i wq => ∃ j : Nat, j ≤ q ∧ i = .int .i64 (j : Int) ∧ s = .string ⟨(S5 ++ Lib.joinTail [32] (ts.take j)).toArray⟩ ∧ Below V0.heap.size V0 wq) (fun _ i _ => q - (intOf i).toNat)
        case atStart => exact ⟨0, Nat.zero_le _, rfl, by simp [Lib.joinTail], HBW.out⟩
        case round =>
          obtain ⟨j, hj, rfl, rfl, hBi⟩ := hrel
          have hsi := hBi.size
          have hci := (hBi.cell (p := ⟨b, off + k * 4 + 3, none⟩) hbl).trans HCC.out.2.2.2
          by_cases hlj : j < q
          · obtain ⟨b2, off2, rfl, hb2, hc6⟩ := HSA.out wr hBi j hlj
            have hj1 : (j : Int) < q := by omega
            have hj2 : ¬ q ≤ j := by omega
            have hb2r : b2 < wr.heap.size := by omega
            have hYl := HYL.out j
            have hTl := HTL.out j
            have hsu := HSU.out j hlj
            generalize ts[j]?.getD [] = Y at *
            obtain ⟨T1, hT1⟩ : ∃ T1, T1 = S5 ++ Lib.joinTail [32] (ts.take j) := ⟨_, rfl⟩
            obtain ⟨T2, hT2⟩ : ∃ T2, T2 = T1 ++ [32] := ⟨_, rfl⟩
            obtain ⟨T3, hT3⟩ : ∃ T3, T3 = T2 ++ Y := ⟨_, rfl⟩
            have hl1 : T1.length = S5.length + (Lib.joinTail [32] (ts.take j)).length := by rw [hT1]; simp
            have HT3 : Hid (Value.string ⟨T3.toArray⟩ = .string ⟨(S5 ++ Lib.joinTail [32] (ts.take (j + 1))).toArray⟩) := Lib.hid (by rw [hT3, hT2, hT1, hsu]; simp)
            rw [← hT1]
            have hl2 : T2.length = T1.length + 1 := by rw [hT2]; simp
            have hap1 : (⟨T1.toArray⟩ : ByteArray) ++ ⟨#[32]⟩ = ⟨T2.toArray⟩ := by rw [hT2]; exact str_app T1 [32]
            have hap2 : (⟨T2.toArray⟩ : ByteArray) ++ ⟨Y.toArray⟩ = ⟨T3.toArray⟩ := by rw [hT3]; exact str_app T2 Y
            have hzT1 : (⟨T1.toArray⟩ : ByteArray).size = T1.length := rfl
            have hzT2 : (⟨T2.toArray⟩ : ByteArray).size = T2.length := rfl
            have hzY : (⟨Y.toArray⟩ : ByteArray).size = Y.length := rfl
            have hl3 : T1.length ≤ 5600 := by omega
            clear hT1 hT2 hT3 hsu hl1
            go_wp2
            go_roundw
            case rel => exact ⟨j + 1, by omega, by first | rfl | go_num, HT3.out, hBi⟩
            case measure => simp [intOf]; omega
          · have hjq : j = q := by omega
            have hj1 : ¬ (j : Int) < q := by omega
            have hTl := HTL.out j
            obtain ⟨T1, hT1⟩ : ∃ T1, T1 = S5 ++ Lib.joinTail [32] (ts.take j) := ⟨_, rfl⟩
            have hl1 : T1.length = S5.length + (Lib.joinTail [32] (ts.take j)).length := by rw [hT1]; simp
            obtain ⟨T2, hT2⟩ : ∃ T2, T2 = T1 ++ [10] := ⟨_, rfl⟩
            have HT2 : Hid (Value.string ⟨T2.toArray⟩ = .string ⟨(fmtK l (k + 1)).toArray⟩) := Lib.hid (by rw [← HSX.out, ← HS.out, hT2, hT1, hjq])
            rw [← hT1]
            have hap1 : (⟨T1.toArray⟩ : ByteArray) ++ ⟨#[10]⟩ = ⟨T2.toArray⟩ := by rw [hT2]; exact str_app T1 [10]
            have hzT1 : (⟨T1.toArray⟩ : ByteArray).size = T1.length := rfl
            have hl3 : T1.length ≤ 5600 := by omega
            clear hT1 hT2 hl1 hjq
            go_wp2
            go_roundw
            case rel => exact ⟨k + 1, by omega, by first | rfl | go_num, HT2.out, below_step HB.out hBi⟩
            case measure => simp [intOf]; omega
      · have hkl : k = l.length := by omega
        have hk9 : ¬ (k : Int) < l.length := by omega
        have HR : Hid (Value.string ⟨(fmtK l k).toArray⟩ = .string ⟨(fmtK l l.length).toArray⟩) := Lib.hid (by rw [hkl])
        clear hkl
        go_wp2
        go_ret
        exact ⟨ret1 HR.out, hB⟩
  · have hF := fmtP_no hv
    rw [hF]
    have C1 := Lib.hid c1
    have hv2 : (checkE l == 0) = false := beq_eq_false_iff_ne.2 hv
    clear c1 hx hF hS
    generalize checkE l = EE at *
    go_enter Tryz.func9, Tryz.ntmps9
    go_wp2_with fail
    refine C1.out.mono ?_
    rintro e w1 ⟨rfl, hb1⟩
    go_wp2
    go_ret
    exact ⟨rfl, hb1⟩
end Go.Proofs.YtmionebfepkolaaGreatDoor

namespace Go.Proofs.YtmionebfepkolaaGreatDoor
open Go.RowKit

theorem binfo : (Tryz.prog.info? 48).map (·.size) = some 2 := by kernel_rfl
theorem bytes_info : (Tryz.prog.info? 5).map (fun i => (i.zero, i.size, i.bytes)) = some (some (.int .u8 0), 1, 1) := by kernel_rfl
set_option maxHeartbeats 1000000 in
set_option maxRecDepth 100000 in
theorem copyUsed_any (b : Nat) (w : World) (h0 : w.cell? ⟨b, 0, none⟩ = some (.pointer (some ⟨b, 0, none⟩))) :
    Calls Tryz.prog 46 #[.pointer (some ⟨b, 0, none⟩)] w fun e w' => e = .returned (.tuple #[]) ∧ w' = w := by
  obtain ⟨j, hj, _⟩ := Option.map_eq_some_iff.1 binfo
  go_enter Tryz.func46, Tryz.ntmps46
  go_wp2
  rw [Lib.run_neq_ptr_same w _ Tryz.underlying45 hj]
  go_wp2
  go_end0
  exact ⟨rfl, rfl⟩
set_option maxHeartbeats 1000000 in
set_option maxRecDepth 100000 in
theorem copyFresh_any (b : Nat) (w : World) (h0 : w.cell? ⟨b, 0, none⟩ = some (.pointer none)) (hsh : w.shape? b = some (48, 2)) (hfz : w.frozen? ⟨b, 0, none⟩ = false) :
    Calls Tryz.prog 46 #[.pointer (some ⟨b, 0, none⟩)] w fun e w' => e = .returned (.tuple #[]) ∧ w' = w.setCell ⟨b, 0, none⟩ (.pointer (some ⟨b, 0, none⟩)) := by
  obtain ⟨j, hj, hjs⟩ := Option.map_eq_some_iff.1 binfo
  go_enter Tryz.func46, Tryz.ntmps46
  go_wp2
  rw [Lib.run_to_unsafe w ⟨b, 0, none⟩ Tryz.underlying45 Tryz.underlying87 hj (by rw [hjs]; decide) hsh (Nat.zero_lt_succ 1)]
  simp only [Result.andThen]
  rw [Oper.upon_value]
  go_wp2
  rw [run_callFunc_extern Tryz.func61 (by kernel_rfl) (by kernel_rfl) (by kernel_rfl) (e := Extern.AbiNoEscape.same) (by kernel_rfl)]
  rw [Lib.run_noEscape]
  simp only [Result.andThen]
  rw [Oper.upon_value]
  go_wp2
  rw [Lib.run_from_unsafe w ⟨b, 0, none⟩ Tryz.underlying87 Tryz.underlying45 hj hsh (by kernel_rfl)]
  simp only [Result.andThen]
  rw [Oper.upon_value]
  go_wp2
  go_end0
  exact ⟨rfl, rfl⟩
theorem copyCheck_any (B b : Nat) (bs : List Value) (w : World) (h : Lib.IsBuilder 48 5 B b bs w) :
    Calls Tryz.prog 46 #[.pointer (some ⟨b, 0, none⟩)] w fun e w' => e = .returned (.tuple #[]) ∧ (Lib.BuilderAt 48 5 B b (.pointer (some ⟨b, 0, none⟩)) bs w' ∧ Below B w w' ∧ w.heap.size ≤ w'.heap.size ∧ ∀ k, k ≠ b → w'.heap[k]? = w.heap[k]?) := by
  rcases h with h | h
  · refine (copyFresh_any b w h.cell0 h.shape h.frozen0).mono ?_
    rintro e w' ⟨rfl, rfl⟩
    exact ⟨rfl, h.used _, (Below.refl B w).setCell (p := ⟨b, 0, none⟩) h.1 _, by simp, fun k hk => Below.heap_setCell _ _ _ _ hk⟩
  · refine (copyUsed_any b w h.cell0).mono ?_
    rintro e w' ⟨rfl, rfl⟩
    exact ⟨rfl, h, Below.refl B _, Nat.le_refl _, fun k _ => rfl⟩
set_option maxHeartbeats 2000000 in
set_option maxRecDepth 100000 in
theorem writeString_any (B b : Nat) (bs : List Value) (s : ByteArray) (w : World) (h : Lib.IsBuilder 48 5 B b bs w) (hlen : bs.length + s.size ≤ 140737488355328) (hBw : B ≤ w.heap.size) :
    Calls Tryz.prog 18 #[.pointer (some ⟨b, 0, none⟩), .string s] w fun e w' => e = .returned (.tuple #[.int .i64 s.size, .nilIface]) ∧ (Lib.BuilderAt 48 5 B b (.pointer (some ⟨b, 0, none⟩)) (bs ++ Lib.strCells s) w' ∧ Below B w w' ∧ ∀ k cs T fr, w.heap[k]? = some (.cells cs T fr) → T ≠ 5 → k ≠ b → w'.heap[k]? = some (.cells cs T fr)) := by
  obtain ⟨i0, hi, hz0, hz1, hz2⟩ := info_parts bytes_info
  have C1 := Lib.hid (copyCheck_any B b bs w h)
  have hI0 := Lib.hid hi
  have hI1 := Lib.hid hz0
  have hI2 := Lib.hid hz1
  have hI3 := Lib.hid hz2
  clear h hi hz0 hz1 hz2
  go_enter Tryz.func18, Tryz.ntmps18
  go_wp2_with fail
  refine C1.out.mono ?_
  rintro e w1 ⟨rfl, h1, hb1, hsz1, hk1⟩
  have HK1 := Lib.hid hk1
  clear hk1
  obtain ⟨hB, v, hbk, hown, hne⟩ := h1
  have c0 : w1.cell? ⟨b, 0, none⟩ = some (.pointer (some ⟨b, 0, none⟩)) := by rw [Lib.cell_of_heap hbk]; rfl
  have c1 : w1.cell? ⟨b, 1, none⟩ = some v := by rw [Lib.cell_of_heap hbk]; rfl
  go_wp2_with (at_builtin; refine Lib.wpList_append_own_string _ rfl _ _ 46 9 rfl B 5 i0 Tryz.underlying46 Tryz.underlying9 hI0.out hI1.out hI2.out hI3.out _ _ _ rfl hown s rfl ?c3 ?c4 ?c5 ?_)
  case c3 => unfold maxLen; omega
  case c4 => omega
  case c5 => have := hb1.size; omega
  intro v' w2 hown' hgrow _
  have hlt : b < w1.heap.size := by
    rcases Nat.lt_or_ge b w1.heap.size with h' | h'
    · exact h'
    · simp [Array.getElem?_eq_none h'] at hbk
  have hb2 : w2.heap[b]? = some (.cells #[.pointer (some ⟨b, 0, none⟩), v] 48 (0, 0)) := by
    rw [hgrow.block b hlt (fun e => hne e.symm)]
    exact hbk
  have d0 : w2.cell? ⟨b, 0, none⟩ = some (.pointer (some ⟨b, 0, none⟩)) := by rw [Lib.cell_of_heap hb2]; rfl
  have d1 : w2.cell? ⟨b, 1, none⟩ = some v := by rw [Lib.cell_of_heap hb2]; rfl
  have f1 : w2.frozen? ⟨b, 1, none⟩ = false := Lib.frozen_of_heap hb2 1
  obtain ⟨ao, n', cap, rfl⟩ : ∃ ao n' cap, v' = .slice ao n' cap := by
    rcases hown'.2 with ⟨hv, _⟩ | ⟨g, cap, cur, hv, _⟩
    · exact ⟨_, _, _, hv⟩
    · exact ⟨_, _, _, hv⟩
  go_wp2
  go_ret2
  refine ⟨rfl, ?_, ?_, ?_⟩
  · exact Lib.BuilderAt.put (T := 48) (e := 5) hB hb2 (bs' := bs ++ Lib.strCells s) (by simpa [Lib.strCells_length] using hown') (by decide)
  · exact (hb1.grown hgrow (by have := hb1.size; omega) (fun k hk => (hown.lt k hk).1)).setCell (p := ⟨b, 1, none⟩) hB _
  · intro k cs T fr hk hT hkb
    have h1 := (HK1.out k hkb).trans hk
    have hlt1 : k < w1.heap.size := (Array.getElem?_eq_some_iff.1 h1).1
    have h2 := (hgrow.block k hlt1 (fun e => Lib.ownBlock_ne hown h1 hT e.symm)).trans h1
    exact (Below.heap_setCell _ _ _ _ hkb).trans h2
theorem builder_later {T e : TypeId} {B b : Nat} {bs : List Value} {w w' : World} (h : Lib.IsBuilder T e B b bs w) (hb : Below w.heap.size w w') : Lib.IsBuilder T e B b bs w' := by
  have key : ∀ p, Lib.BuilderAt T e B b p bs w → Lib.BuilderAt T e B b p bs w' := fun p hh => by
    have hlt := hh.lt
    obtain ⟨hB, v, hbk, hown, hne⟩ := hh
    exact ⟨hB, v, (hb.block b hlt).trans hbk, xown_later hown hb, hne⟩
  rcases h with h | h
  · exact .inl (key _ h)
  · exact .inr (key _ h)
theorem byteCells_app (S L : List UInt8) : Lib.byteCells S ++ Lib.strCells ⟨L.toArray⟩ = Lib.byteCells (S ++ L) := by
  simp [Lib.byteCells, Lib.strCells]
end Go.Proofs.YtmionebfepkolaaGreatDoor

namespace Go.Proofs.YtmionebfepkolaaGreatDoor
open Go.RowKit
attribute [local go_sem] Later.cell

/-- Worlds in which a task lies in block h. -/
structure TaskW (h : Nat) (c0 c1 c2 c3 : Value) where
  val : World
  k : val.heap[h]? = some (.cells #[c0, c1, c2, c3] 34 (0, 0))
section
variable {h : Nat} {c0 c1 c2 c3 : Value}
theorem TaskW.k0 (x : TaskW h c0 c1 c2 c3) : x.val.cell? ⟨h, 0, none⟩ = some c0 := by rw [Lib.cell_of_heap x.k]; rfl
theorem TaskW.k1 (x : TaskW h c0 c1 c2 c3) : x.val.cell? ⟨h, 1, none⟩ = some c1 := by rw [Lib.cell_of_heap x.k]; rfl
theorem TaskW.k2 (x : TaskW h c0 c1 c2 c3) : x.val.cell? ⟨h, 2, none⟩ = some c2 := by rw [Lib.cell_of_heap x.k]; rfl
theorem TaskW.k3 (x : TaskW h c0 c1 c2 c3) : x.val.cell? ⟨h, 3, none⟩ = some c3 := by rw [Lib.cell_of_heap x.k]; rfl
end
attribute [local go_sem] TaskW.k0 TaskW.k1 TaskW.k2 TaskW.k3
theorem wp_region_task {P : Program} {id : Nat} {Q : Exit → Act → World → Prop} {a : Act} {w : World} {l : List Oper} (h : Nat) (c0 c1 c2 c3 : Value) (hm : P.follows .mixedOrders = true) (hg : noGuard l.toArray = true)
    (hh : wpC P .any l.toArray (fun W => ∃ x : TaskW h c0 c1 c2 c3, W = x.val) Q l.length (Array.replicate l.length false) a w.drew) : (Code.region id l.toArray true).wp P Q a w :=
  wp_region_any hm (wpC_any hg _ _ _ _ (by simpa using hh))
theorem scel_bcel (ss : List ByteArray) : scel ss = bcel (ss.map lsj) := by
  unfold scel bcel
  rw [List.map_map]
  exact List.map_congr_left fun s _ => by rw [Function.comp, show (⟨(lsj s).toArray⟩ : ByteArray) = s from bsj_lsj s]
theorem row3_new (W : World) (a b c : Value) (t : TypeId) : (W.alloc (.cells #[a, b, c] t)).ownsRow W.heap.size t 1 (.slice (some ⟨W.heap.size, 0, none⟩) 3 3) 3 [a, b, c] :=
  ⟨rfl, .inr ⟨W.heap.size, 3, #[a, b, c], rfl, Nat.le_refl _, heap_alloc_new W _, Nat.le_refl _, by unfold maxLen; decide, rfl, rfl⟩⟩
set_option maxRecDepth 20000 in
set_option maxHeartbeats 8000000 in
theorem Format_any (A : Option Addr) (len cap : Nat) (l : List Tk) (w : World) (htab : Tab w) (hS : Sml l) (hx : Plan w w.heap.size A len l) :
    Calls Tryz.prog 6 #[.slice A len cap] w fun e w' => e = .returned (.string ⟨(fmtP l).toArray⟩) ∧ Below w.heap.size w w' := by
  have c1 := Check_any A len cap l w hS hx
  obtain rfl : l.length = len := hx.1
  by_cases hv : checkE l = 0
  · rw [hv] at c1
    have hP := check_spec hv
    rw [← fmtK_all hv]
    have hl := hP.len
    have HK := Lib.hid (fun k (hk : k < l.length) => fmtK_succ hk)
    have HN := Lib.hid (fun k => fmtK_le hP k)
    have HLJ := Lib.hid (fun k (hk : k < l.length) => lineJ_len hP (tkA l k) (tkA_mem hk))
    have HT := Lib.hid (fun k (hk : k < l.length) => okP_tk hP (tkA l k) (tkA_mem hk))
    obtain ⟨k0, hk, ky0, ky1, ky2⟩ := info_parts info_str
    have hJ0 := Lib.hid hk
    have hJ1 := Lib.hid ky0
    have hJ2 := Lib.hid ky1
    have hJ3 := Lib.hid ky2
    have C1 := Lib.hid c1
    have HX := Lib.hid hx
    have HTB := Lib.hid htab
    have CS := Lib.hid (fun g (S : List UInt8) W (h : Lib.IsBuilder 48 5 w.heap.size g (Lib.byteCells S) W) (hb : w.heap.size ≤ W.heap.size) => Tryz.Builder_String_any w.heap.size g S W h hb)
    clear c1 hx hv hP hS htab hk ky0 ky1 ky2
    go_enter Tryz.func6, Tryz.ntmps6
    go_wp2_with fail
    refine C1.out.mono ?_
    rintro e w1 ⟨rfl, hb1⟩
    have hs1 := hb1.size
    have HB1 : Hid (Below w.heap.size w (w1.alloc (.cells #[.pointer none, .slice none 0 0] 48))) := Lib.hid (hb1.alloc hs1 _)
    have HBU : Hid (Lib.IsBuilder 48 5 w.heap.size w1.heap.size (Lib.byteCells (fmtK l 0)) (w1.alloc (.cells #[.pointer none, .slice none 0 0] 48))) :=
      Lib.hid (.inl ⟨hs1, .slice none 0 0, heap_alloc_new w1 _, World.ownsRow_nil _ _ _ _, by simp [Value.ownBlock]⟩)
    clear hb1 C1
    go_wp2
    go_loopw [11] (fun i wr => ∃ k : Nat, k ≤ l.length ∧ i = .int .i64 (k : Int) ∧ Hid (Lib.IsBuilder 48 5 w.heap.size w1.heap.size (Lib.byteCells (fmtK l k)) wr) ∧ Below w.heap.size w wr) (fun i _ => l.length - (intOf i).toNat)
    case atStart => exact ⟨0, Nat.zero_le _, rfl, HBU, HB1.out⟩
    case round =>
      obtain ⟨k, hk, rfl, HU, hB⟩ := hrel
      have hsz := hB.size
      by_cases hlt : k < l.length
      · obtain ⟨b, off, rfl, hb0, hc1, hc2, hc3, A', n, cc, hc4, hn1, hn2, hSt⟩ := (HX.out.below hB).at_ k hlt
        obtain rfl : (tkA l k).af.length = n := hSt.1
        obtain ⟨⟨ht1, ⟨ht2, ht3⟩, ht4, ht5⟩, ht6, ht7, ht8, ht9⟩ := HT.out k hlt
        have HSt := Lib.hid (hSt.more hsz)
        have HA0 : Hid (A' = none → (tkA l k).af.length = 0) := Lib.hid (fun h => Rows.nil0 hSt h)
        have hbl : b < wr.heap.size := by omega
        have hk1 : (k : Int) < l.length := by omega
        have hk2 : ¬ l.length ≤ k := by omega
        have hS := HK.out k hlt
        have hNl := HN.out k
        have hLl := HLJ.out k hlt
        have C1 := Lib.hid (fun W (h : Tab W) => itoa_any (tkA l k).dy W h (by omega) (by omega))
        have C2 := Lib.hid (fun W (h : Tab W) => itoa_any (tkA l k).mn W h (by omega) (by omega))
        have hnm : (tkA l k).nm = ⟨(lsj (tkA l k).nm).toArray⟩ := (bsj_lsj _).symm
        rw [hnm] at hc1
        have HWS : Hid (([.string ⟨(lsj (tkA l k).nm).toArray⟩, .string ⟨(Lib.itoa (tkA l k).dy).toArray⟩, .string ⟨(Lib.itoa (tkA l k).mn).toArray⟩] : List Value) ++ scel (tkA l k).af = bcel (wsJ (tkA l k))) := Lib.hid (by rw [scel_bcel]; rfl)
        have HWL : Hid ((wsJ (tkA l k)).length = 3 + (tkA l k).af.length) := Lib.hid (by simp [wsJ]; omega)
        have HJL : Hid (lineJ (tkA l k) = Lib.join (wsJ (tkA l k)) [32]) := Lib.hid rfl
        obtain ⟨SX, hSX⟩ : ∃ SX, SX = fmtK l (k + 1) := ⟨_, rfl⟩
        rw [← hSX] at hS
        have HSX := Lib.hid hSX
        clear hSX ht1 ht2 ht3 ht4 ht5 ht7 ht8 ht9 hnm hSt
        generalize fmtK l k = S at *
        generalize lineJ (tkA l k) = LJ at *
        generalize wsJ (tkA l k) = WS at *
        generalize lsj (tkA l k).nm = X at *
        generalize Lib.itoa (tkA l k).dy = D at *
        generalize Lib.itoa (tkA l k).mn = E at *
        generalize (tkA l k).dy = d at *
        generalize (tkA l k).mn = m at *
        generalize (tkA l k).af = ss at *
        obtain ⟨L1, hL1⟩ : ∃ L1, L1 = LJ ++ [10] := ⟨_, rfl⟩
        have hzLJ : (⟨LJ.toArray⟩ : ByteArray).size = LJ.length := rfl
        have hl1 : L1.length = LJ.length + 1 := by rw [hL1]; simp
        have hap1 : (⟨LJ.toArray⟩ : ByteArray) ++ ⟨#[10]⟩ = ⟨L1.toArray⟩ := by rw [hL1]; exact str_app LJ [10]
        have HS : Hid (S ++ L1 = SX) := Lib.hid (by rw [hS, hL1]; simp)
        have hzL1 : (⟨L1.toArray⟩ : ByteArray).size = L1.length := rfl
        have hq10 : ss.length ≤ 10 := ht6
        have HB := Lib.hid hB
        clear hS hL1 hB
        go_wp2
        have HH0 : Hid ((wr.alloc (.cells #[.string ⟨X.toArray⟩, .int .i64 d, .int .i64 m, .slice A' ss.length cc] 34)).drew.heap[wr.heap.size]? = some (.cells #[.string ⟨X.toArray⟩, .int .i64 d, .int .i64 m, .slice A' ss.length cc] 34 (0, 0))) := Lib.hid (heap_alloc_new wr _)
        have HB0 : Hid (Below wr.heap.size wr (wr.alloc (.cells #[.string ⟨X.toArray⟩, .int .i64 d, .int .i64 m, .slice A' ss.length cc] 34)).drew) := Lib.hid (((Below.refl _ wr).alloc (Nat.le_refl _) _).drew)
        have HBw : Hid (Below w.heap.size w (wr.alloc (.cells #[.string ⟨X.toArray⟩, .int .i64 d, .int .i64 m, .slice A' ss.length cc] 34)).drew) := Lib.hid (below_step HB.out HB0.out)
        have HLT : Hid (wr.heap.size < (wr.alloc (.cells #[.string ⟨X.toArray⟩, .int .i64 d, .int .i64 m, .slice A' ss.length cc] 34)).drew.heap.size) := Lib.hid (by simp)
        have HLE : Hid (w.heap.size ≤ (wr.alloc (.cells #[.string ⟨X.toArray⟩, .int .i64 d, .int .i64 m, .slice A' ss.length cc] 34)).drew.heap.size) := Lib.hid (by simp; omega)
        have HLE2 : Hid (wr.heap.size ≤ (wr.alloc (.cells #[.string ⟨X.toArray⟩, .int .i64 d, .int .i64 m, .slice A' ss.length cc] 34)).drew.heap.size) := Lib.hid (by simp)
        have HGT : Hid (w1.heap.size < wr.heap.size) := Lib.hid (by rcases HU.out with h | h <;> exact h.lt)
        haveI : Nonempty (TaskW wr.heap.size (.string ⟨X.toArray⟩) (.int .i64 d) (.int .i64 m) (.slice A' ss.length cc)) := ⟨⟨_, HH0.out⟩⟩
        refine wp_region_task wr.heap.size (.string ⟨X.toArray⟩) (.int .i64 d) (.int .i64 m) (.slice A' ss.length cc) (by kernel_rfl) (by kernel_rfl) ?_
        refine wpC_take (f := 7) (by kernel_rfl) (by kernel_rfl) ⟨⟨_, HH0.out⟩, rfl⟩ [0, 1, 2, 3, 5, 6, 9, 10] _ _ (by kernel_rfl) ?_
        simp only [List.map_cons, List.map_nil, List.getElem?_toArray, List.getElem?_cons_succ, List.getElem?_cons_zero, Option.getD_some]
        repeat (go_big_quiet_step (fail))
        refine wpQuiet_nil ?_
        obtain ⟨WW0, hW0⟩ : ∃ W, W = (wr.alloc (.cells #[.string ⟨X.toArray⟩, .int .i64 d, .int .i64 m, .slice A' ss.length cc] 34)).drew := ⟨_, rfl⟩
        rw [← hW0] at HH0 HB0 HBw HLT HLE HLE2 ⊢
        clear hW0
        have hB : Below WW0.heap.size WW0 WW0 := Below.refl _ _
        refine wpC_all (rs := [4]) (by kernel_rfl) (by decide) ?_
        intro i hi
        simp only [List.mem_cons, List.not_mem_nil, or_false] at hi
        subst hi
        refine ⟨_, rfl, ?_⟩
        go_simp
        refine (C1.out _ (HTB.out.below (HBw.out.trans (hB.mono HLE.out)))).mono ?_
        rintro e WW1 ⟨rfl, hb9⟩
        replace hB := below_step hB hb9
        clear hb9
        refine ⟨⟨⟨_, (hB.block _ HLT.out).trans HH0.out⟩, rfl⟩, ?_⟩
        go_simp
        refine wpC_all (rs := [7]) (by kernel_rfl) (by decide) ?_
        intro i hi
        simp only [List.mem_cons, List.not_mem_nil, or_false] at hi
        subst hi
        refine ⟨_, rfl, ?_⟩
        go_simp
        refine (C2.out _ (HTB.out.below (HBw.out.trans (hB.mono HLE.out)))).mono ?_
        rintro e WW2 ⟨rfl, hb9⟩
        replace hB := below_step hB hb9
        clear hb9
        refine ⟨⟨⟨_, (hB.block _ HLT.out).trans HH0.out⟩, rfl⟩, ?_⟩
        go_simp
        refine wpC_all (rs := [8]) (by kernel_rfl) (by decide) ?_
        intro i hi
        simp only [List.mem_cons, List.not_mem_nil, or_false] at hi
        subst hi
        refine ⟨_, rfl, ?_⟩
        go_simp
        have ho := row3_new WW2 (.string ⟨X.toArray⟩) (.string ⟨D.toArray⟩) (.string ⟨E.toArray⟩) 9
        have hG := hB.size
        have hG2 : WW2.heap.size < (WW2.alloc (.cells #[.string ⟨X.toArray⟩, .string ⟨D.toArray⟩, .string ⟨E.toArray⟩] 9)).heap.size := by simp
        replace hB := hB.alloc hB.size (.cells #[.string ⟨X.toArray⟩, .string ⟨D.toArray⟩, .string ⟨E.toArray⟩] 9)
        generalize WW2.heap.size = G at *
        generalize WW2.alloc (.cells #[.string ⟨X.toArray⟩, .string ⟨D.toArray⟩, .string ⟨E.toArray⟩] 9) = WW3 at *
        refine ⟨⟨⟨_, (hB.block _ HLT.out).trans HH0.out⟩, rfl⟩, ?_⟩
        refine wpC_all (rs := [11]) (by kernel_rfl) (by decide) ?_
        intro i hi
        simp only [List.mem_cons, List.not_mem_nil, or_false] at hi
        subst hi
        refine ⟨_, rfl, ?_⟩
        have hcl := Strs.cells (HSt.out.below ((HB0.out.trans (hB.mono HLE2.out))))
        refine wp_append_src (.tmp 23) (.tmp 25) 32 rfl G 9 k0 (.string ByteArray.empty) 1 16 Tryz.underlying32 hJ0.out hJ1.out hJ2.out hJ3.out rfl (by decide) (.slice (some ⟨G, 0, none⟩) 3 3) 3 _ (by simp [Act.eval, Act.put]) ho (by simp) A' ss.length cc (scel ss) (by simp [Act.eval, Act.put]) (by rw [scel_len]; omega) HA0.out hcl (scel_one _) (by unfold maxLen; omega) (by omega) (by omega) ?_
        intro g5 cap5 WW4 hown hgr hat
        rw [HWS.out] at hown
        replace hB := hB.trans (grown_below hgr (by omega) (fun q hq => by simp [Value.ownBlock] at hq; omega))
        clear hgr hat hcl ho
        refine ⟨⟨⟨_, (hB.block _ HLT.out).trans HH0.out⟩, rfl⟩, ?_⟩
        go_simp
        refine wpC_all (rs := [12]) (by kernel_rfl) (by decide) ?_
        intro i hi
        simp only [List.mem_cons, List.not_mem_nil, or_false] at hi
        subst hi
        refine ⟨_, rfl, ?_⟩
        go_simp
        have cj := join_own [32] hown (by have := HWL.out; omega) (by rw [← HJL.out]; omega)
        rw [← HJL.out] at cj
        refine cj.mono ?_
        rintro e WW5 ⟨rfl, hb9⟩
        replace hB := below_step hB hb9
        clear hb9 hown cj
        refine ⟨⟨⟨_, (hB.block _ HLT.out).trans HH0.out⟩, rfl⟩, ?_⟩
        go_simp
        refine wpC_take (f := 1) (by kernel_rfl) (by kernel_rfl) ⟨⟨_, (hB.block _ HLT.out).trans HH0.out⟩, rfl⟩ [13] _ _ (by kernel_rfl) ?_
        simp only [List.map_cons, List.map_nil, List.getElem?_toArray, List.getElem?_cons_succ, List.getElem?_cons_zero, Option.getD_some]
        repeat (go_big_quiet_step (fail))
        refine wpQuiet_nil ?_
        refine wpC_all (rs := [14]) (by kernel_rfl) (by decide) ?_
        intro i hi
        simp only [List.mem_cons, List.not_mem_nil, or_false] at hi
        subst hi
        refine ⟨_, rfl, ?_⟩
        go_simp
        have cw := writeString_any w.heap.size w1.heap.size (Lib.byteCells S) ⟨L1.toArray⟩ WW5 (builder_later (builder_later HU.out HB0.out) hB) (by rw [Lib.byteCells_length, hzL1]; omega) (by have := hB.size; have := HLE.out; omega)
        rw [byteCells_app, HS.out] at cw
        refine cw.mono ?_
        rintro e WW6 ⟨rfl, hbu, hb9, hkp⟩
        have hB9 := (HBw.out.trans (hB.mono HLE.out)).trans hb9
        have hh9 := hkp _ _ _ _ ((hB.block _ HLT.out).trans HH0.out) (by decide) (by have := HGT.out; omega)
        clear cw hkp
        refine ⟨⟨⟨_, hh9⟩, rfl⟩, ?_⟩
        go_simp
        refine wpC_done (by kernel_rfl) ?_
        have HU9 := Lib.hid (Or.inr hbu : Lib.IsBuilder 48 5 w.heap.size w1.heap.size (Lib.byteCells SX) _)
        have HB9 := Lib.hid hB9
        rw [HSX.out] at HU9
        clear hbu hB9 hB hb9 hh9
        go_wp2
        go_roundw
        case rel => exact ⟨k + 1, by omega, by first | rfl | go_num, HU9, HB9.out⟩
        case measure => simp [intOf]; omega
      · have hkl : k = l.length := by omega
        have hk9 : ¬ (k : Int) < l.length := by omega
        rw [hkl] at HU
        have HBx := Lib.hid hB
        clear hkl hB
        go_wp2_with fail
        refine (CS.out _ _ _ HU.out hsz).mono ?_
        rintro e w3 ⟨rfl, hb3⟩
        have HB3 := Lib.hid (HBx.out.trans hb3)
        clear hb3
        go_wp2
        go_ret
        exact ⟨rfl, HB3.out⟩
  · have hF := fmtP_no hv
    rw [hF]
    have C1 := Lib.hid c1
    have hv2 : (checkE l == 0) = false := beq_eq_false_iff_ne.2 hv
    clear c1 hx hF hS htab
    generalize checkE l = EE at *
    go_enter Tryz.func6, Tryz.ntmps6
    go_wp2_with fail
    refine C1.out.mono ?_
    rintro e w1 ⟨rfl, hb1⟩
    go_wp2
    go_ret
    exact ⟨rfl, hb1⟩
end Go.Proofs.YtmionebfepkolaaGreatDoor
