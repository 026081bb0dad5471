/- Plans: the reference's small functions: IsName, find, has, Has, afters, all. -/
import Derived.Test.YtmionebfepkolaaGreatDoorProg
import Derived.Test.YtmionebfepkolaaGreatDoorYJi
import Derived.Test.YtmionebfepkolaaGreatDoorJobP
import Derived.Test.YtmionebfepkolaaGreatDoorLater
set_option linter.unusedSimpArgs false
set_option linter.unusedVariables false
namespace Go.Proofs.YtmionebfepkolaaGreatDoor
open Go.RowKit
attribute [local go_sem] Later.cell

theorem beqS (a b : ByteArray) : (a.toList == b.toList) = decide (a = b) := by
  rw [ByteArray.toList_eq, ByteArray.toList_eq, Bool.eq_iff_iff]
  simp only [beq_iff_eq, decide_eq_true_eq]
  constructor
  · intro h; exact ByteArray.ext (Array.toList_inj.1 h)
  · intro h; rw [h]
def fndZ (l : List Tk) (s : ByteArray) : Int := if fnd l s < l.length then (fnd l s : Int) else -1
set_option maxHeartbeats 1000000 in
theorem find_any (A : Option Addr) (len cap : Nat) (l : List Tk) (s : ByteArray) (w : World) (hm : len ≤ 9223372036854775807) (hx : Plan w w.heap.size A len l) :
    Calls Tryz.prog 33 #[.slice A len cap, .string s] w fun e w' => e = .returned (.int .i64 (fndZ l s)) ∧ Below w.heap.size w w' := by
  have HX := Lib.hid hx
  clear hx
  go_enter Tryz.func33, Tryz.ntmps33
  go_wp2
  go_loopw [5] (fun i wr => ∃ k : Nat, k ≤ len ∧ i = .int .i64 k ∧ Hid (∀ j, j < k → (tkA l j).nm ≠ s) ∧ Below w.heap.size w wr) (fun i _ => len - (intOf i).toNat)
  case atStart => exact ⟨0, Nat.zero_le _, rfl, Lib.hid (fun j h => absurd h (by omega)), Below.refl _ _⟩
  case round =>
    obtain ⟨k, hk, rfl, HT, hB⟩ := hrel
    by_cases hlt : k < len
    · obtain ⟨b, off, rfl, hb0, hc1, hc2, hc3, A', n, c, hc4, -⟩ := (HX.out.below hB).at_ k hlt
      have hbs := hB.size
      have hb1 : b < wr.heap.size := by omega
      generalize hX : (tkA l k).nm = X at *
      have HXX := Lib.hid hX
      clear hX hc2 hc3 hc4
      have hk1 : (k : Int) < len := by omega
      have hk2 : ¬ len ≤ k := by omega
      by_cases hXs : X = s
      · have he : (X.toList == s.toList) = true := by rw [beqS]; exact decide_eq_true hXs
        have hfin : Hid ((k : Int) = fndZ l s) := Lib.hid (by
          have h1 := fnd_eq (l := l) (s := s) (i := k) (by rw [HX.out.1]; omega) (by rw [HXX.out]; exact hXs) HT.out
          unfold fndZ
          rw [h1, if_pos (by rw [HX.out.1]; omega)])
        clear hXs
        go_wp2
        go_ret
        exact ⟨ret_int hfin.out, hB⟩
      · have he : (X.toList == s.toList) = false := by rw [beqS]; exact decide_eq_false hXs
        have hT2 : Hid (∀ j, j < k + 1 → (tkA l j).nm ≠ s) := Lib.hid (fun j hj => by
          by_cases e : j = k
          · rw [e, HXX.out]; exact hXs
          · exact HT.out j (by omega))
        clear hXs
        go_wp2
        go_roundw
        case rel => exact ⟨k + 1, by omega, by go_num, hT2, hB⟩
        case measure => simp [intOf]; omega
    · have hkl : k = len := by omega
      have hfin : Hid ((-1 : Int) = fndZ l s) := Lib.hid (by
        have h1 := fnd_none (l := l) (s := s) (fun j hj => HT.out j (by rw [HX.out.1] at hj; omega))
        unfold fndZ
        rw [h1, if_neg (by omega)])
      have hk1 : ¬ (k : Int) < len := by omega
      clear HT
      go_wp2
      go_ret
      exact ⟨ret_int hfin.out, hB⟩
set_option maxHeartbeats 1000000 in
theorem has_any (A : Option Addr) (len cap : Nat) (xs : List Int) (n : Int) (w : World) (hm : len ≤ 9223372036854775807) (hx : Ints w w.heap.size A len xs) :
    Calls Tryz.prog 55 #[.slice A len cap, .int .i64 n] w fun e w' => e = .returned (.bool (xs.contains n)) ∧ w = w' := by
  obtain ⟨R, hR⟩ : ∃ R, R = xs.contains n := ⟨_, rfl⟩
  rw [← hR]
  have HR := Lib.hid hR
  have HX := Lib.hid hx
  clear hx hR
  go_enter Tryz.func55, Tryz.ntmps55
  go_wp2
  go_loopw [5] (fun i wr => ∃ k : Nat, k ≤ len ∧ i = .int .i64 k ∧ Hid (∀ j, j < k → xs[j]?.getD 0 ≠ n) ∧ w = wr) (fun i _ => len - (intOf i).toNat)
  case atStart => exact ⟨0, Nat.zero_le _, rfl, Lib.hid (fun j h => absurd h (by omega)), rfl⟩
  case round =>
    obtain ⟨k, hk, rfl, HT, rfl⟩ := hrel
    by_cases hlt : k < len
    · obtain ⟨b, off, rfl, hb0, hc1⟩ := HX.out.at_ k hlt
      generalize hX : xs[k]?.getD 0 = X at *
      have HXX := Lib.hid hX
      clear hX
      have hk1 : (k : Int) < len := by omega
      have hk2 : ¬ len ≤ k := by omega
      have hkx : Hid (k < xs.length) := Lib.hid (by rw [HX.out.1]; exact hlt)
      by_cases hXs : X = n
      · have he : (X == n) = true := by simpa using hXs
        have hfin : Hid (true = R) := Lib.hid (by
          rw [HR.out]
          symm
          rw [List.contains_iff_mem, ← hXs, ← HXX.out, List.getElem?_eq_getElem hkx.out]
          exact List.getElem_mem _)
        clear hXs
        go_wp2
        go_ret
        exact ⟨ret_bool hfin.out, rfl⟩
      · have he : (X == n) = false := by simpa using hXs
        have hT2 : Hid (∀ j, j < k + 1 → xs[j]?.getD 0 ≠ n) := Lib.hid (fun j hj => by
          by_cases e : j = k
          · rw [e, HXX.out]; exact hXs
          · exact HT.out j (by omega))
        clear hXs
        go_wp2
        go_roundw
        case rel => exact ⟨k + 1, by omega, by go_num, hT2, by first | rfl | trivial⟩
        case measure => simp [intOf]; omega
    · have hkl : k = len := by omega
      have hfin : Hid (false = R) := Lib.hid (by
        rw [HR.out]
        symm
        rw [Bool.eq_false_iff]
        intro h
        rw [List.contains_iff_mem] at h
        obtain ⟨j, hj, e⟩ := List.getElem_of_mem h
        exact HT.out j (by rw [hkl, ← HX.out.1]; exact hj) (by rw [List.getElem?_eq_getElem hj]; exact e))
      have hk1 : ¬ (k : Int) < len := by omega
      clear HT
      go_wp2
      go_ret
      exact ⟨ret_bool hfin.out, rfl⟩
set_option maxHeartbeats 1000000 in
theorem Has_any (A : Option Addr) (len cap : Nat) (xs : List ByteArray) (n : ByteArray) (w : World) (hm : len ≤ 9223372036854775807) (hx : Strs w w.heap.size A len xs) :
    Calls Tryz.prog 28 #[.slice A len cap, .string n] w fun e w' => e = .returned (.bool (isIn xs n)) ∧ w = w' := by
  have HX := Lib.hid hx
  clear hx
  go_enter Tryz.func28, Tryz.ntmps28
  go_wp2
  go_loopw [5] (fun i wr => ∃ k : Nat, k ≤ len ∧ i = .int .i64 k ∧ Hid (∀ j, j < k → xs[j]?.getD ByteArray.empty ≠ n) ∧ w = wr) (fun i _ => len - (intOf i).toNat)
  case atStart => exact ⟨0, Nat.zero_le _, rfl, Lib.hid (fun j h => absurd h (by omega)), rfl⟩
  case round =>
    obtain ⟨k, hk, rfl, HT, rfl⟩ := hrel
    by_cases hlt : k < len
    · obtain ⟨b, off, rfl, hb0, hc1⟩ := HX.out.atS k hlt
      generalize hX : xs[k]?.getD ByteArray.empty = X at *
      have HXX := Lib.hid hX
      clear hX
      have hk1 : (k : Int) < len := by omega
      have hk2 : ¬ len ≤ k := by omega
      have hkx : Hid (k < xs.length) := Lib.hid (by rw [HX.out.1]; exact hlt)
      by_cases hXs : X = n
      · have he : (X.toList == n.toList) = true := by rw [beqS]; exact decide_eq_true hXs
        have hfin : Hid (true = isIn xs n) := Lib.hid (by
          symm
          rw [isIn_iff, ← hXs, ← HXX.out, List.getElem?_eq_getElem hkx.out]
          exact List.getElem_mem _)
        clear hXs
        go_wp2
        go_ret
        exact ⟨ret_bool hfin.out, rfl⟩
      · have he : (X.toList == n.toList) = false := by rw [beqS]; exact decide_eq_false hXs
        have hT2 : Hid (∀ j, j < k + 1 → xs[j]?.getD ByteArray.empty ≠ n) := Lib.hid (fun j hj => by
          by_cases e : j = k
          · rw [e, HXX.out]; exact hXs
          · exact HT.out j (by omega))
        clear hXs
        go_wp2
        go_roundw
        case rel => exact ⟨k + 1, by omega, by go_num, hT2, by first | rfl | trivial⟩
        case measure => simp [intOf]; omega
    · have hkl : k = len := by omega
      have hfin : Hid (false = isIn xs n) := Lib.hid (by
        symm
        rw [Bool.eq_false_iff]
        intro h
        rw [isIn_iff] at h
        obtain ⟨j, hj, e⟩ := List.getElem_of_mem h
        exact HT.out j (by rw [hkl, ← HX.out.1]; exact hj) (by rw [List.getElem?_eq_getElem hj]; exact e))
      have hk1 : ¬ (k : Int) < len := by omega
      clear HT
      go_wp2
      go_ret
      exact ⟨ret_bool hfin.out, rfl⟩
set_option maxHeartbeats 1000000 in
theorem all_any (A : Option Addr) (len cap : Nat) (xs : List Int) (A' : Option Addr) (len' cap' : Nat) (ys : List Int) (w : World) (hm : len ≤ 9223372036854775807) (hm' : len' ≤ 9223372036854775807) (hx : Ints w w.heap.size A len xs) (hy : Ints w w.heap.size A' len' ys) :
    Calls Tryz.prog 56 #[.slice A len cap, .slice A' len' cap'] w fun e w' => e = .returned (.bool (ys.all xs.contains)) ∧ w = w' := by
  have HY := Lib.hid hy
  have c1 := fun n => has_any A len cap xs n w hm hx
  have C1 := Lib.hid c1
  clear hx hy c1
  go_enter Tryz.func56, Tryz.ntmps56
  go_wp2
  go_loopw [5] (fun i wr => ∃ k : Nat, k ≤ len' ∧ i = .int .i64 k ∧ Hid (∀ j, j < k → xs.contains (ys[j]?.getD 0) = true) ∧ w = wr) (fun i _ => len' - (intOf i).toNat)
  case atStart => exact ⟨0, Nat.zero_le _, rfl, Lib.hid (fun j h => absurd h (by omega)), rfl⟩
  case round =>
    obtain ⟨k, hk, rfl, HT, rfl⟩ := hrel
    by_cases hlt : k < len'
    · obtain ⟨b, off, rfl, hb0, hc1⟩ := HY.out.at_ k hlt
      have c2 := C1.out (ys[k]?.getD 0)
      have hkx : Hid (k < ys.length) := Lib.hid (by rw [HY.out.1]; exact hlt)
      have hd : Hid (ys[k]?.getD 0 ∈ ys) := Lib.hid (by rw [List.getElem?_eq_getElem hkx.out]; exact List.getElem_mem _)
      have hk1 : (k : Int) < len' := by omega
      have hk2 : ¬ len' ≤ k := by omega
      cases hc : xs.contains (ys[k]?.getD 0)
      · have hfin : Hid (false = ys.all xs.contains) := Lib.hid (by
          symm
          rw [List.all_eq_false]
          exact ⟨_, hd.out, by rw [hc]; decide⟩)
        rw [hc] at c2
        have C2 := Lib.hid c2
        clear c2 hc hd
        generalize ys[k]?.getD 0 = X at *
        go_wp2_with fail
        refine (C2.out).mono ?_
        rintro e w1 ⟨rfl, rfl⟩
        go_wp2
        go_ret
        exact ⟨ret_bool hfin.out, rfl⟩
      · have hT2 : Hid (∀ j, j < k + 1 → xs.contains (ys[j]?.getD 0) = true) := Lib.hid (fun j hj => by
          by_cases e : j = k
          · rw [e]; exact hc
          · exact HT.out j (by omega))
        rw [hc] at c2
        have C2 := Lib.hid c2
        clear c2 hc hd
        generalize ys[k]?.getD 0 = X at *
        go_wp2_with fail
        refine (C2.out).mono ?_
        rintro e w1 ⟨rfl, rfl⟩
        go_wp2
        go_roundw
        case rel => exact ⟨k + 1, by omega, by go_num, hT2, by first | rfl | trivial⟩
        case measure => simp [intOf]; omega
    · have hkl : k = len' := by omega
      have hfin : Hid (true = ys.all xs.contains) := Lib.hid (by
        symm
        rw [List.all_eq_true]
        intro x hx
        obtain ⟨j, hj, e⟩ := List.getElem_of_mem hx
        have := HT.out j (by rw [hkl, ← HY.out.1]; exact hj)
        rw [List.getElem?_eq_getElem hj] at this
        rw [← e]; exact this)
      have hk1 : ¬ (k : Int) < len' := by omega
      clear HT
      go_wp2
      go_ret
      exact ⟨ret_bool hfin.out, rfl⟩
/-- The places of those before a task, as the reference has them. -/
def afZ (l : List Tk) (i : Nat) : List Int := (tkA l i).af.map (fndZ l)
theorem afZ_afs {l : List Tk} {i : Nat} (h : ∀ s ∈ (tkA l i).af, fnd l s < l.length) : afZ l i = iN (afs l i) := by
  unfold afZ afs iN
  rw [List.map_map]
  apply List.map_congr_left
  intro s hs
  unfold fndZ
  rw [if_pos (h s hs)]; rfl
def AfR (w : World) (zs : List Int) (n : Nat) (v i : Value) (W : World) : Prop := ∃ k : Nat, k ≤ n ∧ i = .int .i64 k ∧ W.ownsRow w.heap.size 3 1 v k (icells (zs.take k)) ∧ Below w.heap.size w W
theorem AfR.mk {w : World} {zs : List Int} {n : Nat} {v i : Value} {W : World} (k : Nat) (h1 : k ≤ n) (h2 : i = .int .i64 k) (h3 : W.ownsRow w.heap.size 3 1 v k (icells (zs.take k))) (h4 : Below w.heap.size w W) : AfR w zs n v i W := ⟨k, h1, h2, h3, h4⟩
set_option maxRecDepth 20000 in
set_option maxHeartbeats 4000000 in
theorem afters_any (A : Option Addr) (len cap : Nat) (l : List Tk) (i : Nat) (w : World) (hm : len ≤ 100000) (hi : i < len) (hf : (tkA l i).af.length ≤ 100000) (hx : Plan w w.heap.size A len l) :
    Calls Tryz.prog 57 #[.slice A len cap, .int .i64 (i : Int)] w fun e w' => (∃ v, e = .returned v ∧ w'.ownsRow w.heap.size 3 1 v (afZ l i).length (icells (afZ l i))) ∧ Below w.heap.size w w' := by
  have c1 := fun s W (h : Below w.heap.size w W) => find_any A len cap l s W (by omega) (hx.go h)
  obtain ⟨j0, hj, hy0, hy1, hy2⟩ := info_parts jinfo_int
  have hI0 := Lib.hid hj
  have hI1 := Lib.hid hy0
  have hI2 := Lib.hid hy1
  have hI3 := Lib.hid hy2
  have hZL : (afZ l i).length = (tkA l i).af.length := List.length_map ..
  have hZG : ∀ k, k < (tkA l i).af.length → (afZ l i).take (k + 1) = (afZ l i).take k ++ [fndZ l ((tkA l i).af[k]?.getD ByteArray.empty)] := fun k hk => by
    rw [List.take_succ_eq_append_getElem (by rw [hZL]; exact hk), List.getElem?_eq_getElem hk]
    simp [afZ]
  rw [hZL]
  have HX := Lib.hid hx
  have C1 := Lib.hid c1
  obtain ⟨b, off, rfl, hb0, -, -, -, A', n, cc, hc4, hn1, hn2, hS⟩ := hx.at_ i hi
  have HS := Lib.hid hS
  have HZG := Lib.hid hZG
  have HZL := Lib.hid hZL
  have hnl : n = (tkA l i).af.length := hS.1.symm
  have hC4 := Lib.hid hc4
  have hZ := Lib.hid (show (afZ l i).take n = afZ l i by rw [List.take_of_length_le (by rw [hZL, hnl]; exact Nat.le_refl _)])
  rw [← hnl] at hf HZG HZL ⊢
  generalize afZ l i = Z at *
  generalize (tkA l i).af = ss at *
  have hii : (i : Int) < len := by omega
  clear hx c1 hj hy0 hy1 hy2 hZL hZG hS hnl hc4
  go_enter Tryz.func57, Tryz.ntmps57
  go_wp2
  go_loopw [5, 6] (fun v i wr => AfR w Z n v i wr) (fun _ i _ => n - (intOf i).toNat)
  case atStart => exact AfR.mk 0 (Nat.zero_le _) rfl (World.ownsRow_nil _ _ _ _) (Below.refl _ _)
  case round =>
    obtain ⟨k, hk, rfl, ho, hB⟩ := hrel
    have hbs := hB.size
    have hb1 : b < wr.heap.size := by omega
    have hc5 : wr.cell? ⟨b, off + i * 4 + 3, none⟩ = some (.slice A' n cc) := by rw [hB.cell (p := ⟨b, _, none⟩) hb0]; exact hC4.out
    obtain ⟨A1, cap1, rfl, hq1, hq2, -, -⟩ := own_ints ho
    have HO := Lib.hid ho
    clear ho
    by_cases hlt : k < n
    · obtain ⟨b2, off2, rfl, hb2, hc6⟩ := (HS.out.below hB).atS k hlt
      have c2 := C1.out (ss[k]?.getD ByteArray.empty)
      have hT := Lib.hid (HZG.out k hlt)
      generalize ss[k]?.getD ByteArray.empty = X at *
      generalize fndZ l X = F at *
      have C2 := Lib.hid c2
      have hk1 : (k : Int) < n := by omega
      have hk2 : ¬ n ≤ k := by omega
      have hb3 : b2 < wr.heap.size := by omega
      clear c2
      go_wp2_with fail
      refine (C2.out _ hB).mono ?_
      rintro e w2 ⟨rfl, hb⟩
      have HO2 := Lib.hid (jown_later HO.out hb)
      have hB2 := hB.trans (hb.mono hbs)
      have hs2 := hB2.size
      clear hb
      go_wp2_with (at_builtin; go_loud (refine wpList_append_own _ rfl (.tmp 17) (.tmp 28) 37 rfl w.heap.size 3 j0 (.int .i64 0) 1 8 Tryz.underlying37 hI0.out hI1.out hI2.out hI3.out rfl (by decide) _ _ _ rfl (HO2.out.alloc _) ⟨w2.heap.size, 0, none⟩ 1 1 [.int .i64 F] rfl rfl (jnews1 _ _ _) (jone1 _) (by unfold maxLen; omega) (by omega) (by simp; omega) ?_))
      intro v8 w8 hown8 hgrow8 _
      have hb9 : Below w.heap.size (w2.alloc (.cells #[.int .i64 F] 3)) w8 := grown_below hgrow8 (by simp; omega) (fun q hq => ((HO2.out.alloc (.cells #[.int .i64 F] 3)).lt q hq).1)
      have hb10 := (hB2.alloc hs2 (.cells #[.int .i64 F] 3)).trans hb9
      have HR2 : Hid (w8.ownsRow w.heap.size 3 1 v8 (k + 1) (icells (Z.take k ++ [F]))) := Lib.hid (by rw [icells_app]; exact hown8)
      clear hown8 hgrow8 hb9 HO HO2
      go_wp2
      go_roundw
      case rel => exact AfR.mk (k + 1) (by omega) (by go_num) (by rw [hT.out]; exact HR2.out) hb10
      case measure => simp [intOf]; omega
    · have hkn : k = n := by omega
      subst hkn
      have hk1 : ¬ (k : Int) < k := by omega
      have HR : Hid (wr.ownsRow w.heap.size 3 1 (.slice A1 k cap1) k (icells Z)) := Lib.hid (by have := HO.out; rw [hZ.out] at this; exact this)
      have HB := Lib.hid hB
      go_wp2
      go_ret
      exact ⟨⟨_, rfl, HR.out⟩, HB.out⟩
end Go.Proofs.YtmionebfepkolaaGreatDoor
