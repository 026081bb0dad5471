/- Joined by merge.py from: JobB3 JobA1 JobA3 JobA4. -/
import Derived.Test.YtgijekhlbkfanaaSdB
import Derived.Test.YtgijekhlbkfanaaMixB
import Derived.Test.YtgijekhlbkfanaaJobQ6
import Derived.Test.YtgijekhlbkfanaaSdA
import Derived.BigQuiet
import Derived.BigRegion
import Derived.Shelf.RegionOpenPlain
set_option linter.unusedSimpArgs false
set_option linter.unusedVariables false
namespace Go.Proofs.Ytgijekhlbkfanaa
open Go.RowKit Go.Shelf
attribute [local go_sem] Later.cell Same.cell

theorem crewE_ok {l : List Tk} {c : Int} (h : crewE l c = 0) : checkE l = 0 ∧ 1 ≤ c ∧ c ≤ 100 := by
  unfold crewE at h
  by_cases h0 : checkE l = 0
  · rw [if_pos h0] at h
    cases h1 : wi c 1 100
    · rw [h1] at h; cases h
    · exact ⟨h0, wi_iff.1 h1⟩
  · rw [if_neg h0] at h; exact absurd h h0
def bndV (l : List Tk) (c : Int) : Int := if crewE l c = 0 then (if ceilV l c < lenV l then lenV l else ceilV l c) else 0
def wkG (l : List Tk) (k : Nat) : Int := mnA l k * dyA l k
theorem wkG_bd {l : List Tk} (hP : okP l) : ∀ k : Nat, k ≤ l.length → 0 ≤ sN (wkG l) k ∧ sN (wkG l) k ≤ 16000 * k
  | 0, _ => by show (0 : Int) ≤ 0 ∧ (0 : Int) ≤ _; omega
  | k + 1, hk => by
    have h1 := wkG_bd hP k (by omega)
    have h2 := mnA_bd hP (i := k) (by omega)
    have h3 := dy_bd hP (i := k) (by omega)
    have h4 := mul_bd (x := mnA l k) (y := dyA l k) (X := 16) (Y := 1000) ⟨by omega, h2.2⟩ ⟨by omega, h3.2⟩
    show 0 ≤ sN (wkG l) k + mnA l k * dyA l k ∧ sN (wkG l) k + mnA l k * dyA l k ≤ _
    omega
set_option maxRecDepth 20000 in
set_option maxHeartbeats 8000000 in
theorem Bound_ok (A : Option Addr) (len cap : Nat) (l : List Tk) (c : Int) (w : World) (hS : Sml l) (hP : okP l) (hE : crewE l c = 0) (hcb : 1 ≤ c ∧ c ≤ 100) (hx : Plan w w.heap.size A len l) :
    Calls Try.prog 53 #[.slice A len cap, .int .i64 c] w fun e w' => e = .returned (.tuple #[.int .i64 (if ceilV l c < lenV l then lenV l else ceilV l c), .int .i64 0]) ∧ Below w.heap.size w w' := by
  obtain rfl : l.length = len := hx.1
  have c1 := crewed_any A l.length cap l c w hS hx
  rw [hE] at c1
  have c2 := fun W (h : Below w.heap.size w W) => earliest_any A l.length cap l W hS hP (hx.go h)
  have c3 := fun A' cap' W (h : Below w.heap.size w W) (hy : Ints W W.heap.size A' l.length (ear l)) => ends_any A l.length cap l A' cap' (ear l) W hP (hx.go h) hy (ear_bdE hP)
  change ∀ A' cap' W _ _, Calls _ _ _ _ (fun e w' => e = .returned (.int .i64 (lenV l)) ∧ _) at c3
  have hL := hP.len
  have hwb := wkG_bd hP l.length (Nat.le_refl _)
  have hwk : sN (wkG l) l.length = wrkV l := rfl
  rw [hwk] at hwb
  have hcv : ceilV l c = (wrkV l + c - 1) / c := rfl
  have hlb := lenV_bd hP
  have hdv : Int.tdiv (wrkV l + c - 1) c = (wrkV l + c - 1) / c := Int.tdiv_eq_ediv_of_nonneg (by omega)
  have hdb : 0 ≤ (wrkV l + c - 1) / c ∧ (wrkV l + c - 1) / c ≤ 1000000 := by
    refine ⟨Int.ediv_nonneg (by omega) (by omega), ?_⟩
    have := Int.ediv_le_self (b := c) (a := wrkV l + c - 1) (by omega)
    omega
  have HX := Lib.hid hx
  have HP := Lib.hid hP
  have HWB := Lib.hid (fun k hk => wkG_bd hP k hk)
  have C1 := Lib.hid c1
  have C2 := Lib.hid c2
  have C3 := Lib.hid c3
  have HDV := Lib.hid hdv
  have HCV := Lib.hid hcv
  have HWK := Lib.hid hwk
  generalize wrkV l = WK at *
  generalize lenV l = LV at *
  generalize ceilV l c = CV at *
  obtain ⟨MX, hMX⟩ : ∃ MX, MX = if CV < LV then LV else CV := ⟨_, rfl⟩
  rw [← hMX]
  have HMX := Lib.hid hMX
  clear c1 c2 c3 hx hP hE hwk hcv hdv hMX
  go_enter Try.func53, Try.ntmps53
  go_wp2_with fail
  refine C1.out.mono ?_
  rintro e w1 ⟨rfl, hb⟩
  have HB := Lib.hid hb
  clear hb C1
  go_wp2_with fail
  go_loopw [7, 18] (fun v i W => ∃ k : Nat, k ≤ l.length ∧ i = .int .i64 (k : Int) ∧ v = .int .i64 (sN (wkG l) k) ∧ Below w.heap.size w W) (fun _ i _ => l.length - (intOf i).toNat)
  case atStart => exact ⟨0, Nat.zero_le _, rfl, rfl, HB.out⟩
  case round =>
    obtain ⟨k, hk, rfl, rfl, hB⟩ := hrel
    have hbs := hB.size
    by_cases hlt : k < l.length
    · obtain ⟨b, off, rfl, hb0, hc1, hc2, hc3, A'', n, cc, hc4, -, -, -⟩ := (HX.out.below hB).at_ k hlt
      have hk1 : (k : Int) < l.length := by omega
      have hk2 : ¬ l.length ≤ k := by omega
      have hm := HWB.out k hk
      have hnx : sN (wkG l) (k + 1) = sN (wkG l) k + (tkA l k).mn * (tkA l k).dy := rfl
      have h2 := mnA_bd HP.out hlt
      have h3 := dy_bd HP.out hlt
      have h4 := mul_bd (x := mnA l k) (y := dyA l k) (X := 16) (Y := 1000) ⟨by omega, h2.2⟩ ⟨by omega, h3.2⟩
      change 0 ≤ (tkA l k).mn * (tkA l k).dy ∧ (tkA l k).mn * (tkA l k).dy ≤ _ at h4
      generalize (tkA l k).nm = X at *
      generalize (tkA l k).dy = Y at *
      generalize (tkA l k).mn = Z at *
      generalize sN (wkG l) k = M at *
      have hwm : wrap64 (Z * Y) = Z * Y := IntWalk.wrap64_in _ ⟨by omega, by omega⟩
      have hwr : wrap64 (M + Z * Y) = M + Z * Y := IntWalk.wrap64_in _ ⟨by omega, by omega⟩
      have HNX := Lib.hid hnx
      have hB3 : Below w.heap.size w (wr.alloc (.cells #[.string X, .int .i64 Y, .int .i64 Z, .slice A'' n cc] 43)) := hB.alloc hbs _
      clear hnx h4
      go_wp2
      go_roundw
      case rel => exact ⟨k + 1, by omega, by go_num, by rw [HNX.out, hwr], hB3⟩
      case measure => simp [intOf]; omega
    · have hkl : k = l.length := by omega
      have hk1 : ¬ (k : Int) < l.length := by omega
      have HB1 := Lib.hid hB
      subst hkl
      rw [HWK.out]
      have hw1 : wrap64 (WK + c) = WK + c := IntWalk.wrap64_in _ ⟨by omega, by omega⟩
      have hw2 : wrap64 (WK + c - 1) = WK + c - 1 := IntWalk.wrap64_in _ ⟨by omega, by omega⟩
      have hne : ¬ c = 0 := by omega
      clear hB
      go_wp2_with fail
      refine wp_region_mix (by kernel_rfl) (by kernel_rfl) ?_
      refine wpC_take (f := 5) (by kernel_rfl) (by kernel_rfl) ⟨⟨_, (Below.refl _ _).drew⟩, rfl⟩ [0, 1, 4, 5, 6, 7, 8, 9] _ _ (by kernel_rfl) ?_
      simp only [List.map_cons, List.map_nil, List.getElem?_toArray, List.getElem?_cons_succ, List.getElem?_cons_zero, Option.getD_some]
      repeat (go_big_quiet_step (fail))
      refine wpQuiet_nil ?_
      have hB : Below wr.heap.size wr wr.drew := (Below.refl _ _).drew
      refine wpC_all (rs := [2]) (by kernel_rfl) (by decide) ?_
      intro i hi
      simp only [List.mem_cons, List.not_mem_nil, or_false] at hi
      subst hi
      refine ⟨_, rfl, ?_⟩
      go_simp
      refine (C2.out _ (HB1.out.trans (hB.mono HB1.out.size))).mono ?_
      rintro e WW0 ⟨⟨v, rfl, ho⟩, hb9⟩
      obtain ⟨A1, cap1, rfl, -, -, hI1, -⟩ := own_ints ho
      replace hB := below_step hB hb9
      clear hb9 ho
      refine ⟨⟨⟨_, hB⟩, rfl⟩, ?_⟩
      refine wpC_all (rs := [3]) (by kernel_rfl) (by decide) ?_
      intro i hi
      simp only [List.mem_cons, List.not_mem_nil, or_false] at hi
      subst hi
      refine ⟨_, rfl, ?_⟩
      go_simp
      refine (C3.out A1 cap1 _ (HB1.out.trans (hB.mono HB1.out.size)) hI1).mono ?_
      rintro e W3 ⟨rfl, hb9⟩
      replace hB := below_step hB hb9
      clear hb9 hI1
      refine ⟨⟨⟨_, hB⟩, rfl⟩, ?_⟩
      go_simp
      refine wpC_take2 (f := 0) (by kernel_rfl) (by kernel_rfl) ⟨⟨_, hB⟩, rfl⟩ [10, 11, 12] _ _ (by kernel_rfl) ?_
      simp only [List.map_cons, List.map_nil, List.getElem?_toArray, List.getElem?_cons_succ, List.getElem?_cons_zero, Option.getD_some]
      repeat (go_big_quiet_step (fail))
      refine wpQuiet_nil ?_
      refine wpC_done (by kernel_rfl) ?_
      have HB3 := Lib.hid (HB1.out.trans (hB.mono HB1.out.size))
      have hmx : (if LV < (WK + c - 1) / c then (WK + c - 1) / c else LV) = MX := by rw [HMX.out, HCV.out]; split <;> split <;> omega
      rw [hmx]
      clear hB hdb hw1 hw2 hmx
      go_wp2_with fail
      go_ret2
      exact ⟨rfl, HB3.out⟩
set_option maxHeartbeats 2000000 in
theorem Bound_any (A : Option Addr) (len cap : Nat) (l : List Tk) (c : Int) (w : World) (hS : Sml l) (hx : Plan w w.heap.size A len l) :
    Calls Try.prog 53 #[.slice A len cap, .int .i64 c] w fun e w' => e = .returned (.tuple #[.int .i64 (bndV l c), .int .i64 (crewE l c)]) ∧ Below w.heap.size w w' := by
  by_cases hE : crewE l c = 0
  · have hk := crewE_ok hE
    rw [show bndV l c = if ceilV l c < lenV l then lenV l else ceilV l c from if_pos hE, hE]
    exact Bound_ok A len cap l c w hS (check_spec hk.1) hE hk.2 hx
  · rw [show bndV l c = 0 from if_neg hE]
    have c1 := crewed_any A len cap l c w hS hx
    have hne : (crewE l c == 0) = false := by simpa using hE
    generalize crewE l c = E at *
    have C1 := Lib.hid c1
    clear c1 hE hx hS
    go_enter Try.func53, Try.ntmps53
    go_wp2_with fail
    refine C1.out.mono ?_
    rintro e w1 ⟨rfl, hb⟩
    have HB := Lib.hid hb
    clear hb
    go_wp2_with fail
    go_ret2
    exact ⟨rfl, HB.out⟩
end Go.Proofs.Ytgijekhlbkfanaa

namespace Go.Proofs.Ytgijekhlbkfanaa
open Go.RowKit Go.Shelf Go.Maps
attribute [local go_sem] Later.cell Same.cell

theorem nan_any (a : Int) (w : World) : Calls Try.prog 115 #[.int .i64 a] w fun e w' => e = .returned (.bool false) ∧ w = w' := by
  go_enter Try.func115, Try.ntmps115
  go_wp2
  go_ret
  exact ⟨by simp, rfl⟩
def cmpV (a b : Int) : Int := if a < b then -1 else if b < a then 1 else 0
theorem cmpV_neg {a b : Int} : cmpV a b < 0 ↔ a < b := by
  unfold cmpV
  by_cases h1 : a < b
  · rw [if_pos h1]; omega
  · rw [if_neg h1]
    by_cases h2 : b < a
    · rw [if_pos h2]; omega
    · rw [if_neg h2]; omega
set_option maxHeartbeats 1000000 in
theorem cmpI_any (a b : Int) (w : World) : Calls Try.prog 91 #[.int .i64 a, .int .i64 b] w fun e w' => e = .returned (.int .i64 (cmpV a b)) ∧ w = w' := by
  go_enter Try.func91, Try.ntmps91
  by_cases h1 : a < b
  · have hv : Hid (cmpV a b = -1) := Lib.hid (if_pos h1)
    go_wp2_with (first | (go_at_call 115; refine (nan_any _ _).mono ?_; rintro e w1 ⟨rfl, rfl⟩))
    go_ret
    exact ⟨by rw [hv.out]; rfl, rfl⟩
  · by_cases h2 : b < a
    · have hv : Hid (cmpV a b = 1) := Lib.hid (by unfold cmpV; rw [if_neg h1, if_pos h2])
      go_wp2_with (first | (go_at_call 115; refine (nan_any _ _).mono ?_; rintro e w1 ⟨rfl, rfl⟩))
      go_ret
      exact ⟨by rw [hv.out]; rfl, rfl⟩
    · have hv : Hid (cmpV a b = 0) := Lib.hid (by unfold cmpV; rw [if_neg h1, if_neg h2])
      go_wp2_with (first | (go_at_call 115; refine (nan_any _ _).mono ?_; rintro e w1 ⟨rfl, rfl⟩))
      go_ret
      exact ⟨by rw [hv.out]; rfl, rfl⟩
/-- The cell of the latest days, and these. -/
def LateAt (w : World) (Bp gl nl capl : Nat) (late : List Int) : Prop := w.cell? ⟨Bp, 0, none⟩ = some (.slice (some ⟨gl, 0, none⟩) nl capl) ∧ ∀ k, k < nl → w.cell? ⟨gl, k, none⟩ = some (.int .i64 (gI late k))
theorem LateAt.kg {w w' : World} {Bp gl nl capl g : Nat} {late : List Int} (h : LateAt w Bp gl nl capl late) (hk : KG g w w') (h1 : Bp ≠ g) (h2 : gl ≠ g) : LateAt w' Bp gl nl capl late :=
  ⟨(World.cell?_of_block (a := ⟨Bp, 0, none⟩) (hk.2 Bp h1)).trans h.1, fun k hk' => (World.cell?_of_block (a := ⟨gl, k, none⟩) (hk.2 gl h2)).trans (h.2 k hk')⟩
set_option maxHeartbeats 1000000 in
theorem late_cmp_any (Bp gl nl capl : Nat) (late : List Int) (a b : Nat) (w : World) (ha : a < nl) (hb : b < nl) (hn : nl ≤ 1000) (hL : LateAt w Bp gl nl capl late) :
    Calls Try.prog 90 #[.int .i64 a, .int .i64 b, .pointer (some ⟨Bp, 0, none⟩)] w fun e w' => e = .returned (.int .i64 (cmpV (gI late a) (gI late b))) ∧ Below w.heap.size w w' := by
  obtain ⟨h0, h1⟩ := hL
  have h2 := h1 a ha
  have h3 := h1 b hb
  have hg : gl < w.heap.size := World.block_lt_of_cell? w _ h2
  have hp : Bp < w.heap.size := World.block_lt_of_cell? w _ h0
  have a1 : (a : Int) < nl := by omega
  have a2 : ¬ nl ≤ a := by omega
  have b1 : (b : Int) < nl := by omega
  have b2 : ¬ nl ≤ b := by omega
  clear h1
  go_enter Try.func90, Try.ntmps90
  go_wp2_with fail
  (refine wp_region_later (by kernel_rfl) (by kernel_rfl) ?_; (repeat (go_big_quiet_step ((go_at_call 91; exact later_same (cmpI_any _ _ _))))); refine wpQuiet_nil ?_)
  intro w3 hb3
  go_wp2
  go_ret
  exact ⟨rfl, hb3⟩

theorem gI_mid {a : List Nat} {x : Nat} {rest : List Nat} : gI (iN (a ++ x :: rest)) a.length = (x : Int) := by
  unfold gI iN; simp
theorem iN_swap {a : List Nat} {y x : Nat} {rest : List Nat} : ((iN (a ++ y :: x :: rest)).set (a.length + 1) (y : Int)).set a.length (x : Int) = iN (a ++ x :: y :: rest) := by
  unfold iN
  induction a with
  | nil => simp
  | cons b a ih => simp
theorem iN_swap2 {a : List Nat} {y x : Nat} {rest : List Nat} : ((iN (a ++ y :: x :: rest)).set a.length (x : Int)).set (a.length + 1) (y : Int) = iN (a ++ x :: y :: rest) := by
  unfold iN
  induction a with
  | nil => simp
  | cons b a ih => simp
/-- The row behind the insertion of its first k. -/
def insK (late : List Int) (xs : List Nat) (k : Nat) : List Nat := isortV late (xs.take k) ++ xs.drop k
theorem insK_one {late : List Int} {xs : List Nat} : insK late xs 1 = xs := by
  cases xs with
  | nil => rfl
  | cons x xs => rfl
theorem insK_end {late : List Int} {xs : List Nat} {k : Nat} (h : xs.length ≤ k) : insK late xs k = isortV late xs := by
  unfold insK; rw [List.take_of_length_le h, List.drop_eq_nil_of_le h, List.append_nil]
theorem insK_split {late : List Int} {xs : List Nat} {k : Nat} (h : k < xs.length) : ∃ a x rest, a.length = k ∧ insK late xs k = a ++ x :: rest ∧ insV late a.reverse x ++ rest = insK late xs (k + 1) := by
  refine ⟨isortV late (xs.take k), xs[k], xs.drop (k + 1), ?_, ?_, ?_⟩
  · rw [isortV_len, List.length_take]; omega
  · unfold insK; rw [List.drop_eq_getElem_cons h]
  · unfold insK
    rw [List.take_succ_eq_append_getElem h]
    unfold isortV
    rw [List.foldl_append]; rfl
theorem grown_set (W : World) (g i : Nat) (v : Value) : W.grownBy (W.setCell ⟨g, i, none⟩ v) (some g) := ⟨rfl, rfl, rfl, by rw [World.size_setCell]; exact Nat.le_refl _, fun b _ hb => Below.heap_setCell W ⟨g, i, none⟩ v b (fun e => hb (by rw [e]))⟩
structure SoR (w : World) (base g n cap Bp gl nl capl : Nat) (late : List Int) (ys : List Nat) (W : World) : Prop where
  own : W.ownsRow base 3 1 (.slice (some ⟨g, 0, none⟩) n cap) n (icells (iN ys))
  kg : w.grownBy W (some g)
  lat : LateAt W Bp gl nl capl late
  lt : ∀ x ∈ ys, x < nl
theorem LateAt.later {w w' : World} {Bp gl nl capl : Nat} {late : List Int} (h : LateAt w Bp gl nl capl late) (hb : Below w.heap.size w w') : LateAt w' Bp gl nl capl late :=
  ⟨(hb.cell (p := ⟨Bp, 0, none⟩) (World.block_lt_of_cell? w _ h.1)).trans h.1, fun k hk => (hb.cell (p := ⟨gl, k, none⟩) (World.block_lt_of_cell? w _ (h.2 k hk))).trans (h.2 k hk)⟩
theorem SoR.later {w : World} {base g n cap Bp gl nl capl : Nat} {late : List Int} {ys : List Nat} {W W' : World} (h : SoR w base g n cap Bp gl nl capl late ys W) (hb : Below W.heap.size W W') : SoR w base g n cap Bp gl nl capl late ys W' :=
  ⟨jown_later h.own hb, h.kg.trans ⟨hb.os, hb.tape, hb.output, hb.size, fun k hk _ => hb.block k hk⟩, h.lat.later hb, h.lt⟩
theorem SoR.swap {w : World} {base g n cap Bp gl nl capl : Nat} {late : List Int} {a rest : List Nat} {x y : Nat} {W : World} (h : SoR w base g n cap Bp gl nl capl late (a ++ y :: x :: rest) W) (h1 : Bp ≠ g) (h2 : gl ≠ g) :
    SoR w base g n cap Bp gl nl capl late (a ++ x :: y :: rest) ((W.setCell ⟨g, a.length + 1, none⟩ (.int .i64 y)).setCell ⟨g, a.length, none⟩ (.int .i64 x)) ∧ SoR w base g n cap Bp gl nl capl late (a ++ x :: y :: rest) ((W.setCell ⟨g, a.length, none⟩ (.int .i64 x)).setCell ⟨g, a.length + 1, none⟩ (.int .i64 y)) := by
  have hl : ∀ z ∈ a ++ x :: y :: rest, z < nl := fun z hz => h.lt z (by simp at hz ⊢; rcases hz with h | h | h | h <;> simp [h])
  have k1 := ((KG.refl g W).set (a.length + 1) (.int .i64 y)).set a.length (.int .i64 x)
  have k2 := ((KG.refl g W).set a.length (.int .i64 x)).set (a.length + 1) (.int .i64 y)
  have g1 := fun (V : World) i v => grown_set V g i v
  refine ⟨⟨?_, (h.kg.trans (g1 W _ _)).trans (g1 _ _ _), h.lat.kg k1 h1 h2, hl⟩, ⟨?_, (h.kg.trans (g1 W _ _)).trans (g1 _ _ _), h.lat.kg k2 h1 h2, hl⟩⟩
  · rw [← iN_swap]
    exact (jown_store (jown_store h.own (a.length + 1) y).1 a.length x).1
  · rw [← iN_swap2]
    exact (jown_store (jown_store h.own a.length x).1 (a.length + 1) y).1
theorem SoR.drew {w : World} {base g n cap Bp gl nl capl : Nat} {late : List Int} {ys : List Nat} {W : World} (h : SoR w base g n cap Bp gl nl capl late ys W) : SoR w base g n cap Bp gl nl capl late ys W.drew := h.later (Below.refl _ _).drew
set_option maxRecDepth 20000 in
set_option maxHeartbeats 8000000 in
theorem isort_any (base g n cap Bp gl nl capl : Nat) (late : List Int) (xs : List Nat) (w : World) (hn : n ≤ 1000) (hn0 : 1 ≤ n) (hnl : nl ≤ 1000) (ho : w.ownsRow base 3 1 (.slice (some ⟨g, 0, none⟩) n cap) n (icells (iN xs)))
    (hL : LateAt w Bp gl nl capl late) (h1 : Bp ≠ g) (h2 : gl ≠ g) (hlt : ∀ x ∈ xs, x < nl) :
    Calls Try.prog 121 #[.slice (some ⟨g, 0, none⟩) n cap, .int .i64 0, .int .i64 n, .func (.func 90) #[] #[.pointer (some ⟨Bp, 0, none⟩)]] w fun e w' => e = .returned (.tuple #[]) ∧ SoR w base g n cap Bp gl nl capl late (isortV late xs) w' := by
  have hxl : xs.length = n := by have := jown_lt ho; rw [iN_len] at this; exact this
  have H0 : Hid (SoR w base g n cap Bp gl nl capl late (insK late xs 1) w) := Lib.hid (by rw [insK_one]; exact ⟨ho, ⟨rfl, rfl, rfl, Nat.le_refl _, fun _ _ _ => rfl⟩, hL, hlt⟩)
  have hxl2 := Lib.hid hxl
  have H1 := Lib.hid h1
  have H2 := Lib.hid h2
  clear ho hL hlt hxl h1 h2
  go_enter Try.func121, Try.ntmps121
  go_wp2
  go_loopw [8] (fun i W => ∃ k : Nat, (1 ≤ k ∧ k ≤ n) ∧ i = .int .i64 k ∧ Hid (SoR w base g n cap Bp gl nl capl late (insK late xs k) W)) (fun i _ => n - (intOf i).toNat)
  case atStart => exact ⟨1, ⟨Nat.le_refl _, hn0⟩, rfl, H0⟩
  case round =>
    clear H0
    obtain ⟨k, ⟨hk1, hk2⟩, rfl, HE⟩ := hrel
    by_cases hlt : k < n
    · obtain ⟨a, x, rest, ha, hs, ht⟩ := insK_split (late := late) (xs := xs) (k := k) (by rw [hxl2.out]; exact hlt)
      rw [hs] at HE
      have HT := Lib.hid ht
      have hk3 : (k : Int) < n := by omega
      have HA := Lib.hid ha
      clear hs ht ha
      go_wp2
      go_loopw [9] (fun j W => ∃ (a : List Nat) (x : Nat) (rest : List Nat) (q : Nat), Hid (a.length = q) ∧ (q ≤ k) ∧ j = .int .i64 q ∧ Hid (insV late a.reverse x ++ rest = insK late xs (k + 1)) ∧ Hid (SoR w base g n cap Bp gl nl capl late (a ++ x :: rest) W)) (fun j _ => (intOf j).toNat)
      case atStart => exact ⟨a, x, rest, k, HA, Nat.le_refl _, rfl, HT, HE⟩
      case round =>
        clear HE HT HA
        clear a x rest
        obtain ⟨a, x, rest, q, HA, hqk, rfl, HT, HE⟩ := hrel
        rcases Nat.eq_zero_or_pos q with hq0 | hq0
        · have HF : Hid (SoR w base g n cap Bp gl nl capl late (insK late xs (k + 1)) wr) := Lib.hid (by
            have ha : a = [] := List.eq_nil_of_length_eq_zero (by rw [HA.out, hq0])
            rw [← HT.out]
            have := HE.out
            rw [ha] at this ⊢
            exact this)
          subst hq0
          clear HE HT HA
          go_wp2_with fail
          (refine wp_region_later (by kernel_rfl) (by kernel_rfl) ?_; (repeat (go_big_quiet_step ((fail)))); refine wpQuiet_nil ?_)
          intro w3 hb3
          go_wp2
          go_roundw
          case rel => exact ⟨k + 1, ⟨by omega, by omega⟩, by go_num, Lib.hid (HF.out.later hb3)⟩
          case measure => simp [intOf]; omega
        · obtain ⟨a', y, rfl⟩ : ∃ a' y, a = a' ++ [y] := by
            rcases List.eq_nil_or_concat a with rfl | ⟨a', y, rfl⟩
            · have := HA.out; simp at this; omega
            · exact ⟨a', y, by rw [List.concat_eq_append]⟩
          obtain ⟨r, hr⟩ : ∃ r, r = a'.length := ⟨_, rfl⟩
          have hqr : q = r + 1 := by have := HA.out; simp at this; omega
          have HE2 : Hid (SoR w base g n cap Bp gl nl capl late (a' ++ y :: x :: rest) wr) := Lib.hid (by have := HE.out; simpa using this)
          obtain ⟨hgs, -, hgc, hgf⟩ := jown_at HE2.out.own
          have hrn : r + 1 < n := by omega
          have hc1 := hgc r (by omega)
          have hc2 := hgc (r + 1) (by omega)
          have hf1 := hgf r
          have hf2 := hgf (r + 1)
          have e1 : gI (iN (a' ++ y :: x :: rest)) r = y := by rw [hr]; exact gI_mid
          have e2 : gI (iN (a' ++ y :: x :: rest)) (r + 1) = x := by rw [hr]; have := gI_mid (a := a' ++ [y]) (x := x) (rest := rest); simpa using this
          rw [e1] at hc1
          rw [e2] at hc2
          have hxl : x < nl := HE2.out.lt x (by simp)
          have hyl : y < nl := HE2.out.lt y (by simp)
          have hcmp := fun W (h : Below wr.heap.size wr W) => late_cmp_any Bp gl nl capl late x y W hxl hyl hnl (HE2.out.lat.later h)
          have HCM := Lib.hid hcmp
          have hlf := HT.out
          rw [List.reverse_append] at hlf
          change insV late (y :: a'.reverse) x ++ rest = _ at hlf
          rw [insV] at hlf
          have HR := Lib.hid hr
          subst hqr
          have z1 : (r : Int) + 1 < n := by omega
          have z2 : (r : Int) < n := by omega
          have z3 : (0 : Int) < (r : Int) + 1 := by omega
          have z4 : (0 : Int) ≤ (r : Int) + 1 := by omega
          have z5 : ((r : Int) + 1).toNat = r + 1 := by omega
          have hnn : n ≤ 9223372036854775807 := by omega
          have hwr2 : wrap64 (r : Int) = (r : Int) := IntWalk.wrap64_in _ ⟨by omega, by omega⟩
          by_cases hv : gI late x < gI late y
          · rw [if_pos hv] at hlf
            have hcv : cmpV (gI late x) (gI late y) < 0 := cmpV_neg.2 hv
            have HTT : Hid (insV late a'.reverse x ++ y :: rest = insK late xs (k + 1)) := Lib.hid (by rw [← hlf]; simp)
            generalize cmpV (gI late x) (gI late y) = CV at *
            clear hlf hv HT HE HA hgc hgf e1 e2 hr hcmp
            go_wp2_with fail
            (refine wp_region_later (by kernel_rfl) (by kernel_rfl) ?_; (repeat (go_big_quiet_step ((go_at_call 90; exact later_call (HCM.out _ (‹Later _›).h))))); refine wpQuiet_nil ?_)
            intro w3 hb3
            have HSW := Lib.hid ((HE2.out.later hb3).drew.swap H1.out H2.out)
            have d1 := (hb3.cell (p := ⟨g, r, none⟩) hgs).trans hc1
            have d2 := (hb3.cell (p := ⟨g, r + 1, none⟩) hgs).trans hc2
            have k1 := (hb3.frozen (p := ⟨g, r, none⟩) hgs).trans hf1
            have k2 := (hb3.frozen (p := ⟨g, r + 1, none⟩) hgs).trans hf2
            obtain ⟨r1, hr1⟩ : ∃ r1, r1 = r + 1 := ⟨_, rfl⟩
            rw [← hr1] at d2 k2 z5
            have HR1 := Lib.hid hr1
            clear HE2 HCM hc1 hc2 hf1 hf2 hb3 hcv hr1
            go_wp2_with fail
            go_big_region
            all_goals go_wp2
            all_goals go_roundw
            case rel => exact ⟨a', x, y :: rest, r, Lib.hid HR.out.symm, by omega, rfl, HTT, Lib.hid (by rw [HR1.out, HR.out]; first | exact HSW.out.1 | exact HSW.out.2)⟩
            case measure => simp [intOf]
          · have HF : Hid (SoR w base g n cap Bp gl nl capl late (insK late xs (k + 1)) wr) := Lib.hid (by
              rw [if_neg hv] at hlf
              rw [← hlf]
              have := HE.out
              simpa using this)
            have hcv : ¬ cmpV (gI late x) (gI late y) < 0 := fun hh => hv (cmpV_neg.1 hh)
            generalize cmpV (gI late x) (gI late y) = CV at *
            clear hlf hv HT HE HA hgc hgf e1 e2 hr hcmp
            go_wp2_with fail
            (refine wp_region_later (by kernel_rfl) (by kernel_rfl) ?_; (repeat (go_big_quiet_step ((go_at_call 90; exact later_call (HCM.out _ (‹Later _›).h))))); refine wpQuiet_nil ?_)
            intro w3 hb3
            have HF3 := Lib.hid (HF.out.later hb3)
            clear HE2 HCM hc1 hc2 hf1 hf2 hb3 HF
            go_wp2
            go_roundw
            case rel => exact ⟨k + 1, ⟨by omega, by omega⟩, by go_num, HF3⟩
            case measure => simp [intOf]; omega
    · have hk : ¬ (k : Int) < n := by omega
      have HF : Hid (SoR w base g n cap Bp gl nl capl late (isortV late xs) wr) := Lib.hid (by rw [← insK_end (k := k) (by rw [hxl2.out]; omega)]; exact HE.out)
      clear HE
      go_wp2
      go_end0
      exact ⟨rfl, HF.out⟩
set_option maxHeartbeats 2000000 in
theorem isort0_any (A : Option Addr) (cap : Nat) (f : Value) (w : World) :
    Calls Try.prog 121 #[.slice A 0 cap, .int .i64 0, .int .i64 0, f] w fun e w' => e = .returned (.tuple #[]) ∧ w = w' := by
  go_enter Try.func121, Try.ntmps121
  go_wp2
  go_loopw [8] (fun i W => i = .int .i64 1 ∧ w = W) (fun i _ => 0)
  case atStart => exact ⟨rfl, rfl⟩
  case round =>
    obtain ⟨rfl, rfl⟩ := hrel
    go_wp2
    go_end0
    exact ⟨rfl, rfl⟩
set_option maxHeartbeats 4000000 in
theorem stable_any (base n cap Bp gl nl capl : Nat) (A : Option Addr) (late : List Int) (xs : List Nat) (w : World) (hn : n < 20) (hnl : nl ≤ 1000) (ho : w.ownsRow base 3 1 (.slice A n cap) n (icells (iN xs)))
    (hL : LateAt w Bp gl nl capl late) (h1 : some Bp ≠ (Value.slice A n cap).ownBlock) (h2 : some gl ≠ (Value.slice A n cap).ownBlock) (hlt : ∀ x ∈ xs, x < nl) :
    Calls Try.prog 89 #[.slice A n cap, .func (.func 90) #[] #[.pointer (some ⟨Bp, 0, none⟩)]] w fun e w' => e = .returned (.tuple #[]) ∧ w'.ownsRow base 3 1 (.slice A n cap) n (icells (iN (isortV late xs))) ∧ w.grownBy w' (Value.slice A n cap).ownBlock := by
  have hxl : xs.length = n := by have := jown_lt ho; rw [iN_len] at this; exact this
  have key : ∀ W, w = W → Calls Try.prog 121 #[.slice A n cap, .int .i64 0, .int .i64 n, .func (.func 90) #[] #[.pointer (some ⟨Bp, 0, none⟩)]] W fun e w' => e = .returned (.tuple #[]) ∧ w'.ownsRow base 3 1 (.slice A n cap) n (icells (iN (isortV late xs))) ∧ W.grownBy w' (Value.slice A n cap).ownBlock := by
    rintro W rfl
    rcases Nat.eq_zero_or_pos n with h0 | h0
    · subst h0
      have hx : xs = [] := List.eq_nil_of_length_eq_zero hxl
      refine (isort0_any A cap _ w).mono ?_
      rintro e w' ⟨rfl, rfl⟩
      refine ⟨rfl, ?_, ⟨rfl, rfl, rfl, Nat.le_refl _, fun _ _ _ => rfl⟩⟩
      rw [hx] at ho ⊢
      exact ho
    · obtain ⟨g, rfl⟩ : ∃ g, A = some ⟨g, 0, none⟩ := by
        rcases ho.2 with ⟨h', _, h3, _⟩ | ⟨g', cap', cur, h', _⟩
        · exfalso
          rw [Value.slice.injEq] at h'
          omega
        · rw [Value.slice.injEq] at h'
          exact ⟨g', h'.1⟩
      refine (isort_any base g n cap Bp gl nl capl late xs w (by omega) h0 hnl ho hL (fun e => h1 (by rw [e]; rfl)) (fun e => h2 (by rw [e]; rfl)) hlt).mono ?_
      rintro e w' ⟨rfl, hS⟩
      exact ⟨rfl, hS.own, hS.kg⟩
  have K1 := Lib.hid key
  have hn1 : ¬ 20 ≤ n := by omega
  have hn2 : ¬ (20 : Int) ≤ n := by omega
  have hn3 : ¬ (20 : Int) < n := by omega
  clear key ho hL h1 h2 hlt hxl
  have key2 : Calls Try.prog 114 #[.slice A n cap, .int .i64 n, .func (.func 90) #[] #[.pointer (some ⟨Bp, 0, none⟩)]] w fun e w' => e = .returned (.tuple #[]) ∧ w'.ownsRow base 3 1 (.slice A n cap) n (icells (iN (isortV late xs))) ∧ w.grownBy w' (Value.slice A n cap).ownBlock := by
    go_enter Try.func114, Try.ntmps114
    go_wp2
    go_loopw [7, 8] (fun x y W => x = .int .i64 0 ∧ y = .int .i64 20 ∧ w = W) (fun _ _ _ => 0)
    case atStart => exact ⟨rfl, rfl, rfl⟩
    case round =>
      obtain ⟨rfl, rfl, rfl⟩ := hrel
      go_wp2_with fail
      refine (K1.out _ rfl).mono ?_
      rintro e w' ⟨rfl, hR⟩
      have HR := Lib.hid hR
      clear hR
      go_wp2
      go_loopw [6] (fun x W => x = .int .i64 20 ∧ w' = W) (fun _ _ => 0)
      case atStart => exact ⟨rfl, rfl⟩
      case round =>
        obtain ⟨rfl, rfl⟩ := hrel
        go_wp2
        go_end0
        exact ⟨rfl, HR.out⟩
  have K2 := Lib.hid key2
  clear key2 K1
  go_enter Try.func89, Try.ntmps89
  go_wp2_with fail
  refine K2.out.mono ?_
  rintro e w' ⟨rfl, hR⟩
  have HR := Lib.hid hR
  clear hR
  go_wp2
  go_end0
  exact ⟨rfl, HR.out⟩
end Go.Proofs.Ytgijekhlbkfanaa

namespace Go.Proofs.Ytgijekhlbkfanaa
open Go.RowKit Go.Shelf Go.Maps
attribute [local go_sem] Oper.semAt_some Later.cell Same.cell

theorem pig {α β : Type} {R : α → β → Prop} (hR : ∀ p q q', R p q → R p q' → q = q') : ∀ {qs : List β} {es : List α}, qs.Nodup → (∀ q ∈ qs, ∃ p ∈ es, R p q) → qs.length ≤ es.length
  | [], es, _, _ => Nat.zero_le _
  | q :: qs, es, hn, h => by
    obtain ⟨p, hp, hpq⟩ := h q (List.mem_cons_self ..)
    obtain ⟨h1, h2⟩ := List.nodup_cons.1 hn
    obtain ⟨l1, l2, rfl⟩ := List.append_of_mem hp
    have := pig hR (qs := qs) (es := l1 ++ l2) h2 fun q' hq' => by
      obtain ⟨p', hp', hpq'⟩ := h q' (List.mem_cons_of_mem _ hq')
      rcases List.mem_append.1 hp' with h3 | h3
      · exact ⟨p', List.mem_append_left _ h3, hpq'⟩
      · rcases List.mem_cons.1 h3 with rfl | h3
        · exact absurd (hR p' q q' hpq hpq') (fun e => h1 (e ▸ hq'))
        · exact ⟨p', List.mem_append_right _ h3, hpq'⟩
    rw [List.length_append] at this
    rw [List.length_cons, List.length_append, List.length_cons]
    omega
/-- How many entries a map of names has. -/
theorem maps_size {W : World} {mb n : Nat} {M : ByteArray → Option Bool} (h : MapS W mb n M) (qs : List ByteArray) (hn : qs.Nodup) (hq : ∀ q ∈ qs, (M q).isSome = true) : ∃ D : DataW Unit, W.ownsMap Try.prog 9 (plainElem Try.prog 4) mb n D ∧ qs.length ≤ Maps.size D ∧ Maps.size D ≤ n := by
  obtain ⟨D, h1, ⟨es, rfl⟩, h3, -⟩ := h
  refine ⟨_, h1, ?_, h1.size_le⟩
  rw [Maps.size_eq]
  refine pig (R := fun (p : Lit × DataW Unit) q => p.1.sameKey (slit q) = true) (fun p q q' a b => ?_) hn fun q hq' => ?_
  · have e1 := WideAt.sameKey_eq a
    have e2 := WideAt.sameKey_eq b
    exact slit_inj (e1.symm.trans e2)
  · have := h3 q
    rw [hq q hq', Maps.has_eq, List.any_eq_true] at this
    exact this
theorem map_inj_nodup {α β : Type} {f : α → β} : ∀ {xs : List α}, (∀ x ∈ xs, ∀ y ∈ xs, f x = f y → x = y) → xs.Nodup → (xs.map f).Nodup
  | [], _, _ => List.nodup_nil
  | x :: xs, hf, hn => by
    obtain ⟨h1, h2⟩ := List.nodup_cons.1 hn
    rw [List.map_cons, List.nodup_cons]
    refine ⟨fun hh => ?_, map_inj_nodup (fun a ha b hb => hf a (List.mem_cons_of_mem _ ha) b (List.mem_cons_of_mem _ hb)) h2⟩
    obtain ⟨y, hy, e⟩ := List.mem_map.1 hh
    have := hf y (List.mem_cons_of_mem _ hy) x (List.mem_cons_self ..) e
    exact h1 (this ▸ hy)
theorem begun_size {l : List Tk} (hP : okP l) {W : World} {mb : Nat} {B : List Nat} (h : MapS W mb B.length (nmsOf l B)) (hn : B.Nodup) (hl : ∀ i ∈ B, i < l.length) : ∃ D : DataW Unit, W.ownsMap Try.prog 9 (plainElem Try.prog 4) mb B.length D ∧ Maps.size D = B.length := by
  obtain ⟨D, h1, h2, h3⟩ := maps_size h (B.map fun i => (tkA l i).nm) (map_inj_nodup (fun x hx y hy e => apN_inj hP.apart (hl x hx) (hl y hy) e) hn) (fun q hq => by
    obtain ⟨i, hi, rfl⟩ := List.mem_map.1 hq
    unfold nmsOf
    rw [if_pos (List.any_eq_true.2 ⟨i, hi, by simp⟩)]; rfl)
  rw [List.length_map] at h2
  exact ⟨D, h1, by omega⟩
structure LsR (A : Option Addr) (cap : Nat) (l : List Tk) (w : World) (N Bl gl capl go mb Bb : Nat) (s : Sc) (W : World) : Prop where
  out : W.ownsRow w.heap.size 3 1 (.slice (some ⟨go, 0, none⟩) l.length l.length) l.length (icells s.1)
  map : MapS W mb s.2.length (nmsOf l s.2)
  cl : W.cell? ⟨w.heap.size, 0, none⟩ = some (.slice A l.length cap)
  cb : W.cell? ⟨Bb, 0, none⟩ = some (.map (some mb))
  lat : LateAt W Bl gl l.length capl (latP l)
  bel : Below w.heap.size w W
  ord : (w.heap.size < gl ∧ gl < Bl ∧ Bl < go) ∧ (go < mb ∧ mb < Bb ∧ Bb < N) ∧ N ≤ W.heap.size
section
variable {A : Option Addr} {cap : Nat} {l : List Tk} {w : World} {N Bl gl capl go mb Bb : Nat} {s : Sc} {W W' : World}
theorem LsR.later (h : LsR A cap l w N Bl gl capl go mb Bb s W) (hb : Below W.heap.size W W') : LsR A cap l w N Bl gl capl go mb Bb s W' :=
  have hc := fun b u (hu : W.cell? ⟨b, 0, none⟩ = some u) => (hb.cell (p := ⟨b, 0, none⟩) (World.block_lt_of_cell? W _ hu)).trans hu
  ⟨jown_later h.out hb, h.map.below hb, hc _ _ h.cl, hc _ _ h.cb, h.lat.later hb, h.bel.trans (hb.mono h.bel.size), h.ord.1, h.ord.2.1, Nat.le_trans h.ord.2.2 hb.size⟩
theorem LateAt.grown {nl : Nat} {late : List Int} {row : Option Nat} (h : LateAt W Bl gl nl capl late) (hg : W.grownBy W' row) (h1 : some Bl ≠ row) (h2 : some gl ≠ row) : LateAt W' Bl gl nl capl late :=
  ⟨(World.cell?_of_block (a := ⟨Bl, 0, none⟩) (hg.block Bl (World.block_lt_of_cell? W _ h.1) h1)).trans h.1, fun k hk => (World.cell?_of_block (a := ⟨gl, k, none⟩) (hg.block gl (World.block_lt_of_cell? W _ (h.2 k hk)) h2)).trans (h.2 k hk)⟩
theorem LsR.grown (h : LsR A cap l w N Bl gl capl go mb Bb s W) {row : Option Nat} (hg : W.grownBy W' row) (hr : ∀ r, row = some r → N ≤ r) : LsR A cap l w N Bl gl capl go mb Bb s W' := by
  obtain ⟨⟨o1, o2, o3⟩, ⟨o4, o5, o6⟩, o7⟩ := h.ord
  have hne : ∀ b, b < N → some b ≠ row := fun b hb e => by have := hr b e.symm; omega
  have hc := fun b (hb : b < N) u (hu : W.cell? ⟨b, 0, none⟩ = some u) => (World.cell?_of_block (a := ⟨b, 0, none⟩) (hg.block b (World.block_lt_of_cell? W _ hu) (hne b hb))).trans hu
  refine ⟨h.out.kept hg (.inr (fun e => hne go (by omega) e)), h.map.kept hg (hne mb (by omega)), hc _ (by omega) _ h.cl, hc _ (by omega) _ h.cb, h.lat.grown hg (hne Bl (by omega)) (hne gl (by omega)), h.bel.trans (grown_below hg h.bel.size fun k hk => by have := hr k hk; omega), ⟨o1, o2, o3⟩, ⟨o4, o5, o6⟩, Nat.le_trans o7 hg.size⟩
theorem LsR.store (h : LsR A cap l w N Bl gl capl go mb Bb s W) (i : Nat) (v : Int) : LsR A cap l w N Bl gl capl go mb Bb (s.1.set i v, s.2) (W.setCell ⟨go, i, none⟩ (.int .i64 v)) := by
  obtain ⟨⟨o1, o2, o3⟩, ⟨o4, o5, o6⟩, o7⟩ := h.ord
  obtain ⟨q1, hg⟩ := jown_store h.out i v
  have hne : ∀ b, b ≠ go → some b ≠ some go := fun b hb e => hb (by injection e)
  have hc := fun b (hb : b ≠ go) u (hu : W.cell? ⟨b, 0, none⟩ = some u) => (World.cell?_of_block (a := ⟨b, 0, none⟩) (hg.block b (World.block_lt_of_cell? W _ hu) (hne b hb))).trans hu
  exact ⟨q1, h.map.kept hg (hne mb (by omega)), hc _ (by omega) _ h.cl, hc _ (by omega) _ h.cb, h.lat.grown hg (hne Bl (by omega)) (hne gl (by omega)), h.bel.trans (grown_below hg h.bel.size fun k hk => by injection hk with hk; omega), ⟨o1, o2, o3⟩, ⟨o4, o5, o6⟩, Nat.le_trans o7 hg.size⟩
theorem LsR.put (h : LsR A cap l w N Bl gl capl go mb Bb s W) {B : List Nat} (hM : MapS W' mb B.length (nmsOf l B)) (hg : W.grownBy W' (some mb)) : LsR A cap l w N Bl gl capl go mb Bb (s.1, B) W' := by
  obtain ⟨⟨o1, o2, o3⟩, ⟨o4, o5, o6⟩, o7⟩ := h.ord
  have hne : ∀ b, b ≠ mb → some b ≠ some mb := fun b hb e => hb (by injection e)
  have hc := fun b (hb : b ≠ mb) u (hu : W.cell? ⟨b, 0, none⟩ = some u) => (World.cell?_of_block (a := ⟨b, 0, none⟩) (hg.block b (World.block_lt_of_cell? W _ hu) (hne b hb))).trans hu
  exact ⟨h.out.kept hg (.inr (fun e => hne go (by omega) e)), hM, hc _ (by omega) _ h.cl, hc _ (by omega) _ h.cb, h.lat.grown hg (hne Bl (by omega)) (hne gl (by omega)), h.bel.trans (grown_below hg h.bel.size fun k hk => by injection hk with hk; omega), ⟨o1, o2, o3⟩, ⟨o4, o5, o6⟩, Nat.le_trans o7 hg.size⟩
end
/-- The tasks ahead of k that have ended. -/
def endN (l : List Tk) (s : Sc) (d : Int) (k : Nat) : List Nat := (List.range k).filter fun i => s.2.contains i && decide (gI s.1 i + dyA l i ≤ d)
theorem endN_next (l : List Tk) (s : Sc) (d : Int) (k : Nat) : endN l s d (k + 1) = if (s.2.contains k && decide (gI s.1 k + dyA l k ≤ d)) = true then endN l s d k ++ [k] else endN l s d k := by
  unfold endN
  rw [List.range_succ, List.filter_append]
  cases h : s.2.contains k && decide (gI s.1 k + dyA l k ≤ d)
  · simp only [List.filter_cons, List.filter_nil, h, Bool.false_eq_true, if_false, List.append_nil]
  · simp only [List.filter_cons, List.filter_nil, h, if_true]
theorem endN_mem {l : List Tk} {s : Sc} {d : Int} {k i : Nat} : i ∈ endN l s d k ↔ i < k ∧ i ∈ s.2 ∧ gI s.1 i + dyA l i ≤ d := by
  unfold endN; rw [List.mem_filter, List.mem_range]; simp
theorem endN_len (l : List Tk) (s : Sc) (d : Int) (k : Nat) : (endN l s d k).length ≤ k := by
  unfold endN; exact Nat.le_trans (List.length_filter_le ..) (by rw [List.length_range]; exact Nat.le_refl _)
/-- The free tasks, in the plan's order. -/
def freeL (l : List Tk) (s : Sc) (d : Int) : List Nat := (List.range l.length).filter (rdD l s.1 s.2 d)
theorem free_is {l : List Tk} (hP : okP l) (s : Sc) (d : Int) : (rdN l (nmsOf l (endN l s d l.length)) l.length).filter (fun i => !s.2.contains i) = freeL l s d := by
  unfold rdN freeL
  rw [List.filter_filter]
  refine List.filter_congr fun i hi => ?_
  rw [List.mem_range] at hi
  rw [rdyM_rdy hP.names (fun j hj => (endN_mem.1 hj).1) hi]
  rw [Bool.eq_iff_iff, Bool.and_eq_true, rdy_iff, rdD_iff]
  constructor
  · rintro ⟨h1, h2, h3⟩
    refine ⟨by simpa using h1, fun a ha => ?_⟩
    have := endN_mem.1 (h3 a ha)
    exact ⟨this.2.1, this.2.2⟩
  · rintro ⟨h1, h2⟩
    refine ⟨by simpa using h1, fun hh => h1 (endN_mem.1 hh).2.1, fun a ha => ?_⟩
    obtain ⟨h3, h4⟩ := h2 a ha
    exact endN_mem.2 ⟨afs_lt hP hi ha, h3, h4⟩
/-- Men that are left behind the first k tasks. -/
def leftN (l : List Tk) (c : Int) (s : Sc) (d : Int) (k : Nat) : Int := c - sN (rnF l s.1 s.2 d) k
theorem leftN_next (l : List Tk) (c : Int) (s : Sc) (d : Int) (k : Nat) : leftN l c s d (k + 1) = leftN l c s d k - rnF l s.1 s.2 d k := by
  unfold leftN; show c - (sN _ k + rnF l s.1 s.2 d k) = _; omega
theorem leftN_bd {l : List Tk} (hP : okP l) (c : Int) (s : Sc) (d : Int) : ∀ k, k ≤ l.length → leftN l c s d k ≤ c ∧ c - 16 * k ≤ leftN l c s d k
  | 0, _ => by unfold leftN; show c - 0 ≤ c ∧ _ ≤ c - 0; omega
  | k + 1, hk => by
    have := leftN_bd hP c s d k (by omega)
    have h2 := mnA_bd hP (i := k) (by omega)
    rw [leftN_next]
    unfold rnF
    split <;> omega
/-- The free tasks while they are gathered. -/
def FrR (W0 : World) (Bf : Nat) (fr : List Nat) (W : World) : Prop :=
  ∃ v, Boxed W Bf 32 v ∧ W.ownsRow W0.heap.size 3 1 v fr.length (icells (iN fr)) ∧ W0.grownBy W (some Bf)
theorem own_cells {W : World} {base : Nat} {e : TypeId} {size : Nat} {v : Value} {n : Nat} {xs : List Value} (ho : W.ownsRow base e size v n xs) {r : Nat} {o : Obj} (hr : W.heap[r]? = some o) (hc : o.isCells = false) : v.ownBlock ≠ some r := by
  intro hh
  rcases ho.2 with ⟨h1, _⟩ | ⟨g, cap, cur, h1, _, h3, _⟩
  · rw [h1] at hh; simp [Value.ownBlock] at hh
  · rw [h1] at hh
    have : g = r := by simpa [Value.ownBlock] using hh
    subst this
    rw [hr] at h3
    injection h3 with h3
    subst h3
    cases hc
theorem FrR.own {W0 : World} {Bf : Nat} (hB : Bf < W0.heap.size) {f : List Nat → List Nat} : OwnFrom W0.heap.size (fun pre W => FrR W0 Bf (f pre) W) := by
  rintro s X Y row ⟨v, h1, h2, h3⟩ hg hr
  refine ⟨v, h1.kept hg (fun e => by obtain ⟨hb, _⟩ := hr Bf e.symm; omega), ?_, h3.andThen hg fun r e => .inl (hr r e).1⟩
  cases row with
  | none => exact jown_later h2 (grown_below hg (Nat.le_refl _) (fun k hk => by cases hk))
  | some r =>
    obtain ⟨-, o, ho, hc⟩ := hr r rfl
    exact h2.kept hg (.inr (own_cells h2 ho hc))
def frP (l : List Tk) (s : Sc) (pre : List Nat) : List Nat := (pre.map fun z => z % l.length).filter fun i => !s.2.contains i
theorem frP_next (l : List Tk) (s : Sc) (pre : List Nat) (z : Nat) : frP l s (pre ++ [z]) = if s.2.contains (z % l.length) = true then frP l s pre else frP l s pre ++ [z % l.length] := by
  unfold frP
  rw [List.map_append, List.filter_append]
  simp only [List.map_cons, List.map_nil, List.filter_cons, List.filter_nil]
  cases h : s.2.contains (z % l.length)
  · simp only [Bool.not_false, if_true, Bool.false_eq_true, if_false]
  · simp only [Bool.not_true, if_true, Bool.false_eq_true, if_false, List.append_nil]
theorem frP_rd {l : List Tk} (hP : okP l) (s : Sc) (d : Int) : frP l s (rdN l (nmsOf l (endN l s d l.length)) l.length) = freeL l s d := by
  rw [← free_is hP s d]
  unfold frP
  congr 1
  rw [List.map_congr_left (g := id), List.map_id]
  intro z hz
  unfold rdN at hz
  rw [List.mem_filter, List.mem_range] at hz
  exact Nat.mod_eq_of_lt hz.1
theorem freeL_len (l : List Tk) (s : Sc) (d : Int) : (freeL l s d).length ≤ l.length := by
  unfold freeL; exact Nat.le_trans (List.length_filter_le ..) (by rw [List.length_range]; exact Nat.le_refl _)
theorem freeL_lt {l : List Tk} {s : Sc} {d : Int} {i : Nat} (h : i ∈ freeL l s d) : i < l.length := by
  unfold freeL at h; rw [List.mem_filter, List.mem_range] at h; exact h.1
end Go.Proofs.Ytgijekhlbkfanaa

namespace Go.Proofs.Ytgijekhlbkfanaa
open Go.RowKit Go.Shelf Go.Maps
attribute [local go_sem] Oper.semAt_some Later.cell Same.cell

def lstX (l : List Tk) (c : Int) : List Int := if crewE l c = 0 then LST l c else []
theorem crew_ok {l : List Tk} {c : Int} (h : crewE l c = 0) : checkE l = 0 ∧ (1 ≤ c ∧ c ≤ 100) ∧ ∀ i, i < l.length → mnA l i ≤ c := by
  unfold crewE at h
  by_cases h0 : checkE l = 0
  · rw [if_pos h0] at h
    cases h1 : wi c 1 100
    · rw [h1] at h; cases h
    · rw [h1, if_pos rfl] at h
      cases h2 : many1 l c
      · refine ⟨h0, wi_iff.1 h1, fun i hi => ?_⟩
        apply Classical.byContradiction
        intro hh
        rw [many1_iff.2 ⟨i, hi, by omega⟩] at h2
        cases h2
      · rw [h2] at h; cases h
  · rw [if_neg h0] at h; exact absurd h h0
abbrev schN (l : List Tk) (c : Int) (d : Nat) : Sc := schK l c (trn l) d
set_option maxRecDepth 20000 in
def LsI (A : Option Addr) (cap : Nat) (l : List Tk) (c : Int) (w : World) (N Bl gl capl go mb Bb : Nat) (m : Nat) (a : Act) (W : World) : Prop :=
  ∃ (d : Nat) (Ds : List Nat) (u3 u11 u12 u13 u14 u15 u16 u17 u18 u19 u20 u21 u22 u23 u24 u25 u26 u27 u28 u29 u30 u31 u32 u33 u34 u35 u36 u37 u38 u39 u40 u41 u42 u43 u44 u45 u46 u47 u48 u49 u50 u51 u52 u53 u54 u55 u56 u57 u58 u59 u60 u61 u62 u63 u64 u65 u66 u67 u68 u69 u70 u71 u72 u73 u74 u75 u76 u77 u78 u79 u80 u81 u82 u83 u84 u85 u86 u87 u88 u89 u90 u91 u92 u93 u94 u95 u96 u97 u98 u99 u100 u101 u102 u103 u104 u105 u106 u107 u108 u109 u110 u111 u112 u113 u114 u115 u116 u117 u118 u119 u120 u121 : Value), d + m = (totD l).toNat + 1 ∧ Run l c d ∧
    a = { tmps := List.toArray (.slice A l.length cap :: .int .i64 c :: .pointer (some ⟨w.heap.size, 0, none⟩) :: u3 :: .slice none 0 0 :: .int .i64 0 :: .int .i64 0 :: .pointer (some ⟨Bl, 0, none⟩) :: .slice (some ⟨go, 0, none⟩) l.length l.length :: .pointer (some ⟨Bb, 0, none⟩) :: .int .i64 (d : Int) :: u11 :: u12 :: u13 :: u14 :: u15 :: u16 :: u17 :: u18 :: u19 :: u20 :: u21 :: u22 :: u23 :: u24 :: u25 :: u26 :: u27 :: u28 :: u29 :: u30 :: u31 :: u32 :: u33 :: u34 :: u35 :: u36 :: u37 :: u38 :: u39 :: u40 :: u41 :: u42 :: u43 :: u44 :: u45 :: u46 :: u47 :: u48 :: u49 :: u50 :: u51 :: u52 :: u53 :: u54 :: u55 :: u56 :: u57 :: u58 :: u59 :: u60 :: u61 :: u62 :: u63 :: u64 :: u65 :: u66 :: u67 :: u68 :: u69 :: u70 :: u71 :: u72 :: u73 :: u74 :: u75 :: u76 :: u77 :: u78 :: u79 :: u80 :: u81 :: u82 :: u83 :: u84 :: u85 :: u86 :: u87 :: u88 :: u89 :: u90 :: u91 :: u92 :: u93 :: u94 :: u95 :: u96 :: u97 :: u98 :: u99 :: u100 :: u101 :: u102 :: u103 :: u104 :: u105 :: u106 :: u107 :: u108 :: u109 :: u110 :: u111 :: u112 :: u113 :: u114 :: u115 :: u116 :: u117 :: u118 :: u119 :: u120 :: u121 :: []), defers := mkD Ds } ∧ LsR A cap l w N Bl gl capl go mb Bb (schN l c d) W ∧ MarksAt W w.heap.size Ds
set_option maxRecDepth 20000 in
theorem LsI.mk {A : Option Addr} {cap : Nat} {l : List Tk} {c : Int} {w : World} {N Bl gl capl go mb Bb : Nat} {m : Nat} {W : World} (d : Nat) (Ds : List Nat) {u3 u11 u12 u13 u14 u15 u16 u17 u18 u19 u20 u21 u22 u23 u24 u25 u26 u27 u28 u29 u30 u31 u32 u33 u34 u35 u36 u37 u38 u39 u40 u41 u42 u43 u44 u45 u46 u47 u48 u49 u50 u51 u52 u53 u54 u55 u56 u57 u58 u59 u60 u61 u62 u63 u64 u65 u66 u67 u68 u69 u70 u71 u72 u73 u74 u75 u76 u77 u78 u79 u80 u81 u82 u83 u84 u85 u86 u87 u88 u89 u90 u91 u92 u93 u94 u95 u96 u97 u98 u99 u100 u101 u102 u103 u104 u105 u106 u107 u108 u109 u110 u111 u112 u113 u114 u115 u116 u117 u118 u119 u120 u121 : Value} (h1 : d + m = (totD l).toNat + 1) (h2 : Run l c d) (h3 : LsR A cap l w N Bl gl capl go mb Bb (schN l c d) W) (h4 : MarksAt W w.heap.size Ds) :
    LsI A cap l c w N Bl gl capl go mb Bb m { tmps := List.toArray (.slice A l.length cap :: .int .i64 c :: .pointer (some ⟨w.heap.size, 0, none⟩) :: u3 :: .slice none 0 0 :: .int .i64 0 :: .int .i64 0 :: .pointer (some ⟨Bl, 0, none⟩) :: .slice (some ⟨go, 0, none⟩) l.length l.length :: .pointer (some ⟨Bb, 0, none⟩) :: .int .i64 (d : Int) :: u11 :: u12 :: u13 :: u14 :: u15 :: u16 :: u17 :: u18 :: u19 :: u20 :: u21 :: u22 :: u23 :: u24 :: u25 :: u26 :: u27 :: u28 :: u29 :: u30 :: u31 :: u32 :: u33 :: u34 :: u35 :: u36 :: u37 :: u38 :: u39 :: u40 :: u41 :: u42 :: u43 :: u44 :: u45 :: u46 :: u47 :: u48 :: u49 :: u50 :: u51 :: u52 :: u53 :: u54 :: u55 :: u56 :: u57 :: u58 :: u59 :: u60 :: u61 :: u62 :: u63 :: u64 :: u65 :: u66 :: u67 :: u68 :: u69 :: u70 :: u71 :: u72 :: u73 :: u74 :: u75 :: u76 :: u77 :: u78 :: u79 :: u80 :: u81 :: u82 :: u83 :: u84 :: u85 :: u86 :: u87 :: u88 :: u89 :: u90 :: u91 :: u92 :: u93 :: u94 :: u95 :: u96 :: u97 :: u98 :: u99 :: u100 :: u101 :: u102 :: u103 :: u104 :: u105 :: u106 :: u107 :: u108 :: u109 :: u110 :: u111 :: u112 :: u113 :: u114 :: u115 :: u116 :: u117 :: u118 :: u119 :: u120 :: u121 :: []), defers := mkD Ds } W :=
  ⟨d, Ds, u3, u11, u12, u13, u14, u15, u16, u17, u18, u19, u20, u21, u22, u23, u24, u25, u26, u27, u28, u29, u30, u31, u32, u33, u34, u35, u36, u37, u38, u39, u40, u41, u42, u43, u44, u45, u46, u47, u48, u49, u50, u51, u52, u53, u54, u55, u56, u57, u58, u59, u60, u61, u62, u63, u64, u65, u66, u67, u68, u69, u70, u71, u72, u73, u74, u75, u76, u77, u78, u79, u80, u81, u82, u83, u84, u85, u86, u87, u88, u89, u90, u91, u92, u93, u94, u95, u96, u97, u98, u99, u100, u101, u102, u103, u104, u105, u106, u107, u108, u109, u110, u111, u112, u113, u114, u115, u116, u117, u118, u119, u120, u121, h1, h2, rfl, h3, h4⟩
theorem stP_take {l : List Tk} {d : Int} {q : Int × Sc} {fs : List Nat} {k : Nat} (h : k < fs.length) : (fs.take (k + 1)).foldl (stP l d) q = stP l d ((fs.take k).foldl (stP l d) q) fs[k] := by
  rw [List.take_succ_eq_append_getElem h, List.foldl_append]; rfl
theorem stP_bd {l : List Tk} (hP : okP l) {d : Int} : ∀ {fs : List Nat} {q : Int × Sc}, (∀ x ∈ fs, x < l.length) → ((fs.foldl (stP l d) q).1 ≤ q.1 ∧ q.1 - 16 * fs.length ≤ (fs.foldl (stP l d) q).1) ∧ (fs.foldl (stP l d) q).2.2.length ≤ q.2.2.length + fs.length
  | [], q, _ => by simp
  | x :: fs, q, h => by
    have h1 := stP_bd hP (d := d) (fs := fs) (q := stP l d q x) fun y hy => h y (List.mem_cons_of_mem _ hy)
    have h2 := mnA_bd hP (h x (List.mem_cons_self ..))
    rw [List.foldl_cons, List.length_cons]
    have h3 : ((stP l d q x).1 ≤ q.1 ∧ q.1 - 16 ≤ (stP l d q x).1) ∧ (stP l d q x).2.2.length ≤ q.2.2.length + 1 := by
      unfold stP
      split
      · refine ⟨⟨?_, ?_⟩, ?_⟩
        · show q.1 - mnA l x ≤ q.1; omega
        · show q.1 - 16 ≤ q.1 - mnA l x; omega
        · show (q.2.2 ++ [x]).length ≤ _; simp
      · exact ⟨⟨by omega, by omega⟩, by omega⟩
    refine ⟨⟨by omega, by push_cast; omega⟩, by omega⟩
theorem stP_take_bd {l : List Tk} (hP : okP l) {d : Int} {q : Int × Sc} {fs : List Nat} (h : ∀ x ∈ fs, x < l.length) {k : Nat} (hk : k ≤ fs.length) : (((fs.take k).foldl (stP l d) q).1 ≤ q.1 ∧ q.1 - 16 * k ≤ ((fs.take k).foldl (stP l d) q).1) ∧ ((fs.take k).foldl (stP l d) q).2.2.length ≤ q.2.2.length + k := by
  have := stP_bd hP (d := d) (q := q) (fs := fs.take k) fun x hx => h x (List.mem_of_mem_take hx)
  rw [List.length_take, Nat.min_eq_left hk] at this
  exact this
theorem totD_bd {l : List Tk} (hP : okP l) : totD l ≤ 1000 * l.length := by
  have : ∀ n, n ≤ l.length → sN (dyA l) n ≤ 1000 * n := by
    intro n
    induction n with
    | zero => intro _; show (0 : Int) ≤ _; omega
    | succ n ih => intro hn; have := ih (by omega); have := (dy_bd hP (i := n) (by omega)).2; show sN _ n + dyA l n ≤ _; omega
  exact this _ (Nat.le_refl _)
set_option maxRecDepth 20000 in
set_option maxHeartbeats 32000000 in
theorem listed_ok (A : Option Addr) (len cap : Nat) (l : List Tk) (c : Int) (w : World) (hS : Sml l) (h9 : l.length ≤ 9) (hE : crewE l c = 0) (hx : Plan w w.heap.size A len l) :
    Calls Try.prog 45 #[.slice A len cap, .int .i64 c] w fun e w' => (∃ v, e = .returned (.tuple #[v, .int .i64 0]) ∧ w'.ownsRow w.heap.size 3 1 v (LST l c).length (icells (LST l c))) ∧ Below w.heap.size w w' := by
  obtain rfl : l.length = len := hx.1
  obtain ⟨hc0, hcb, hcm⟩ := crew_ok hE
  have hP := check_spec hc0
  have c1 := fun W (h : Below w.heap.size w W) => crewed_any A l.length cap l c W hS (hx.go h)
  rw [hE] at c1
  have c2 := fun W (h : Below w.heap.size w W) => latest_any A l.length cap l W hS hP (hx.go h)
  have hmm := @run_makeMap Try.prog
  have hmf : ∀ (fn : Fn) (first cap : Array Value) (w : World), (Instr.makeFunc fn first cap).run Try.prog w = .ok (.func fn first cap) w := fun _ _ _ _ => rfl
  obtain ⟨j0, hj, hy0, hy1, hy2⟩ := info_parts jinfo_int
  have hI0 := Lib.hid hj
  have hI1 := Lib.hid hy0
  have hI2 := Lib.hid hy1
  have hI3 := Lib.hid hy2
  have hL := hP.len
  have hLp := hP.pos
  have C1 := Lib.hid c1
  have C2 := Lib.hid c2
  have HX := Lib.hid hx
  have HS := Lib.hid hS
  have HP := Lib.hid hP
  have HCM := Lib.hid hcm
  clear c1 c2 hx hS hP hj hy0 hy1 hy2 hcm hE hc0
  refine (callsIn_wide (n := 9)).1 ?_
  refine callsIn_of_wp_marks Try.func45 rfl trivial ?_ rfl
  simp only [Try.ntmps45, List.size_toArray, List.length_cons, List.length_nil, Nat.reduceAdd, Nat.reduceSub, Array.replicate_succ, Array.replicate_zero, List.push_toArray, List.append_toArray, List.nil_append, List.cons_append]
  refine wpIn_wide.2 ?_
  have hbl0 := (Boxed.new w 31 (.slice A l.length cap)).cell
  go_wp2_with fail
  refine (C1.out _ (by repeat (first | exact Below.refl _ _ | assumption | refine Below.setCell ?_ (by first | (simp; done) | (simp; omega) | omega) _ | refine Below.drew ?_ | refine below_drewN ?_ _ | refine Below.alloc ?_ (by first | (simp; done) | (simp; omega) | omega) _ | refine below_alloc ?_ _ | refine below_step ?_ (by assumption)))).mono ?_
  rintro e w1 ⟨rfl, hb⟩
  have hbl1 : w1.cell? ⟨w.heap.size, 0, none⟩ = some (.slice A l.length cap) := (hb.cell (p := ⟨w.heap.size, 0, none⟩) (by simp)).trans hbl0
  have hB1 : Below w.heap.size w w1 := (by repeat (first | exact Below.refl _ _ | assumption | refine Below.setCell ?_ (by first | (simp; done) | (simp; omega) | omega) _ | refine Below.drew ?_ | refine below_drewN ?_ _ | refine Below.alloc ?_ (by first | (simp; done) | (simp; omega) | omega) _ | refine below_alloc ?_ _ | refine below_step ?_ (by assumption)))
  have hs1 : w.heap.size < w1.heap.size := by have := hb.size; simp at this; omega
  clear hb hbl0
  go_wp2_with fail
  refine (C2.out _ hB1).mono ?_
  rintro e w2 ⟨⟨v, rfl, ho⟩, hb⟩
  obtain ⟨A2, capl, rfl, -, -, hI, hg2⟩ := own_ints ho
  obtain ⟨gl, rfl, hgl⟩ : ∃ gl, A2 = some ⟨gl, 0, none⟩ ∧ w1.heap.size ≤ gl := by
    obtain ⟨g, e1, e2, -⟩ := hg2 hLp
    exact ⟨g, e1, e2⟩
  have hlc := (jown_at ho).2.2.1
  have hgs := (jown_at ho).1
  have hbl2 := (hb.cell (p := ⟨w.heap.size, 0, none⟩) hs1).trans hbl1
  have hB2 : Below w.heap.size w w2 := hB1.trans (hb.mono hB1.size)
  have hs2 := hb.size
  have HLC := Lib.hid hlc
  have HB2 := Lib.hid hB2
  have hblA : (w2.alloc (.cells #[.slice (some ⟨gl, 0, none⟩) l.length capl] 32)).cell? ⟨w.heap.size, 0, none⟩ = some (.slice A l.length cap) := cell_kept hbl2 (World.grownBy_alloc w2 _ none) (fun r e => by cases e)
  clear hb hbl1 hI hg2 ho hlc C1 C2 hB1 hB2
  go_wp2_with (at_make; refine wpList_make_full _ rfl _ _ 32 rfl w.heap.size 3 j0 (.int .i64 0) 1 Try.underlying32 hI0.out hI1.out hI2.out _ _ _ _ l.length rfl rfl (by omega) (by omega) (by rw [hI3.out]; omega) (by unfold maxLen; omega) (by simp; omega) ?_; intro w4 hown hgrow; have hbl4 : w4.cell? ⟨w.heap.size, 0, none⟩ = some (.slice A l.length cap) := cell_kept (cell_kept hbl2 (World.grownBy_alloc w2 _ none) (fun r e => by cases e)) hgrow (fun r e => by cases e); go_frame)
  rw [jmade1] at hown
  have hsa : (w2.alloc (.cells #[.slice (some ⟨gl, 0, none⟩) l.length capl] 32)).heap.size = w2.heap.size + 1 := by simp
  have hg4 : Below (w2.heap.size + 1) (w2.alloc (.cells #[.slice (some ⟨gl, 0, none⟩) l.length capl] 32)) w4 := grown_below hgrow (by rw [hsa]; exact Nat.le_refl _) (fun k hk => by cases hk)
  have hgo4 : w2.heap.size + 1 < w4.heap.size := by have := (jown_at hown).1; rw [hsa] at this; exact this
  have hlt4 : LateAt w4 w2.heap.size gl l.length capl (latP l) := by
    have hcb2 := (Boxed.new w2 32 (.slice (some ⟨gl, 0, none⟩) l.length capl)).cell
    refine ⟨(hg4.cell (p := ⟨w2.heap.size, 0, none⟩) (by show w2.heap.size < _; omega)).trans hcb2, fun k hk => ?_⟩
    exact (hg4.cell (p := ⟨gl, k, none⟩) (by show gl < _; omega)).trans ((Below.refl w2.heap.size w2).alloc (Nat.le_refl _) _ |>.cell (p := ⟨gl, k, none⟩) hgs |>.trans (HLC.out k hk))
  have hB4 : Below w.heap.size w w4 := (HB2.out.alloc (by have := HB2.out.size; omega) _).trans (hg4.mono (by have := HB2.out.size; omega))
  rw [hsa] at hown
  obtain ⟨W5, hW5⟩ : ∃ W5, W5 = (w4.alloc (.map #[] 0)).alloc (.cells #[.map (some w4.heap.size)] 70) := ⟨_, rfl⟩
  have hb45 : Below w4.heap.size w4 W5 := by rw [hW5]; exact ((Below.refl _ _).alloc (Nat.le_refl _) _).alloc (by simp) _
  have hs5 : W5.heap.size = w4.heap.size + 1 + 1 := by rw [hW5]; simp
  have hM5 : MapS W5 w4.heap.size ([] : List Nat).length (nmsOf l []) := by
    rw [hW5]; exact (mapv_made w4 Try.prog 9 4 slit blit false).alloc _
  have hcb5 : W5.cell? ⟨w4.heap.size + 1, 0, none⟩ = some (.map (some w4.heap.size)) := by
    rw [hW5]; have := (Boxed.new (w4.alloc (.map #[] 0)) 70 (.map (some w4.heap.size))).cell; rw [World.size_alloc] at this; exact this
  have hLS : LsR A cap l w (w4.heap.size + 1 + 1) w2.heap.size gl capl (w2.heap.size + 1) w4.heap.size (w4.heap.size + 1) (schN l c 0) W5 :=
    ⟨jown_later hown hb45, hM5, (hb45.cell (p := ⟨w.heap.size, 0, none⟩) (by show w.heap.size < _; omega)).trans hbl4, hcb5, hlt4.later hb45, hB4.trans (hb45.mono hB4.size), ⟨by omega, by omega, by omega⟩, ⟨by omega, by omega, by omega⟩, by omega⟩
  have HLS := Lib.hid hLS
  have hsz5 : w.heap.size < W5.heap.size := by omega
  have ho1 : w.heap.size < gl ∧ gl < w2.heap.size := by omega
  rw [← hW5]
  try rw [hsa]
  generalize hN0 : w4.heap.size + 1 + 1 = N at *
  clear hown hgrow hbl4 hbl2 hblA hg4 hlt4 hB4 hb45 hM5 hcb5 hLS hW5 HLC HB2 hsa hs5
  generalize hgoo : w2.heap.size + 1 = go at *
  generalize hBbb : w4.heap.size + 1 = Bb at *
  generalize hmbb : w4.heap.size = mb at *
  generalize hBll : w2.heap.size = Bl at *
  have hord : (w.heap.size < gl ∧ gl < Bl ∧ Bl < go) ∧ (go < mb ∧ mb < Bb ∧ Bb < N) := by omega
  clear hN0 hgoo hBbb hmbb hBll hgo4 hgs hgl hs1 hs2 ho1
  refine wp_loop_ghost (LsI A cap l c w N Bl gl capl go mb Bb) ((totD l).toNat + 1) (LsI.mk 0 [] (Nat.zero_add _) (Run.zeroth l c) HLS.out (MarksAt.nil _ _)) ?_
  clear HLS
  intro m a wr hrel
  obtain ⟨d, Ds, hrel⟩ := hrel
  obtain ⟨u3, u11, u12, u13, u14, u15, u16, u17, hrel⟩ := hrel
  obtain ⟨u18, u19, u20, u21, u22, u23, u24, u25, hrel⟩ := hrel
  obtain ⟨u26, u27, u28, u29, u30, u31, u32, u33, hrel⟩ := hrel
  obtain ⟨u34, u35, u36, u37, u38, u39, u40, u41, hrel⟩ := hrel
  obtain ⟨u42, u43, u44, u45, u46, u47, u48, u49, hrel⟩ := hrel
  obtain ⟨u50, u51, u52, u53, u54, u55, u56, u57, hrel⟩ := hrel
  obtain ⟨u58, u59, u60, u61, u62, u63, u64, u65, hrel⟩ := hrel
  obtain ⟨u66, u67, u68, u69, u70, u71, u72, u73, hrel⟩ := hrel
  obtain ⟨u74, u75, u76, u77, u78, u79, u80, u81, hrel⟩ := hrel
  obtain ⟨u82, u83, u84, u85, u86, u87, u88, u89, hrel⟩ := hrel
  obtain ⟨u90, u91, u92, u93, u94, u95, u96, u97, hrel⟩ := hrel
  obtain ⟨u98, u99, u100, u101, u102, u103, u104, u105, hrel⟩ := hrel
  obtain ⟨u106, u107, u108, u109, u110, u111, u112, u113, hrel⟩ := hrel
  obtain ⟨u114, u115, u116, u117, u118, u119, u120, u121, hrel⟩ := hrel
  obtain ⟨hdm, hR, rfl, hE, hD⟩ := hrel
  have hbs := hE.bel.size
  obtain ⟨D, hown, hsz⟩ := begun_size HP.out hE.map hR.inv.nd hR.inv.lt
  have q0 := hE.cl
  have q1 := hE.cb
  have hlel := hR.inv.len_le
  have hdb := hR.bd HP.out
  have HOWN := Lib.hid hown
  have HSZ := Lib.hid hsz
  have HE := Lib.hid hE
  have HD := Lib.hid hD
  have HR := Lib.hid hR
  clear hown hsz hE hD hR
  by_cases hfull : (schN l c d).2.length < l.length
  · have htb := totD_bd HP.out
    have hcon := fun k (hk : k < l.length) => nms_name HP.out.apart (out := (schN l c d).2) HR.out.inv.lt hk
    have hearly : ∀ i ∈ (schN l c d).2, 0 ≤ gI (schN l c d).1 i ∧ gI (schN l c d).1 i < d := HR.out.inv.early
    have hlf := fun k hk => leftN_bd HP.out c (schN l c d) (d : Int) k hk
    have hln := fun k => leftN_next l c (schN l c d) (d : Int) k
    have hen := fun k => endN_next l (schN l c d) (d : Int) k
    have hsl : (schN l c d).1.length = l.length := HR.out.inv.len
    have hl0 : leftN l c (schN l c d) (d : Int) 0 = c := by unfold leftN; show c - 0 = c; omega
    generalize hs : schN l c d = s at *
    have hf1 : (s.2.length : Int) < l.length := by omega
    have HCON := Lib.hid hcon
    have HEAR := Lib.hid hearly
    have HLF := Lib.hid hlf
    have HLN := Lib.hid hln
    have HEN := Lib.hid hen
    have HSL := Lib.hid hsl
    have HS0 := Lib.hid hs
    have hcl0 : wr.cell? ⟨w.heap.size, 0, none⟩ = some (.slice A l.length cap) := q0
    have hM0 : MapS (wr.alloc (.map #[] 0)) wr.heap.size 0 (nmsOf l (endN l s (d : Int) 0)) := mapv_made wr Try.prog 9 4 slit blit false
    have hE0 := HE.out.later ((Below.refl wr.heap.size wr).alloc (Nat.le_refl _) (.map #[] 0))
    have hD0 : MarksAt (wr.alloc (.map #[] 0)) w.heap.size Ds := HD.out.later ((Below.refl wr.heap.size wr).alloc (Nat.le_refl _) (.map #[] 0)) HD.out.lt
    have hq0 : (wr.alloc (.map #[] 0)).cell? ⟨w.heap.size, 0, none⟩ = some (.slice A l.length cap) := hE0.cl
    have HM0 := Lib.hid hM0
    have HE0 := Lib.hid hE0
    have HD0 := Lib.hid hD0
    have HL0 := Lib.hid hl0
    have hen0 : N ≤ wr.heap.size := HE.out.ord.2.2
    clear hcon hearly hlf hln hen hsl hs hM0 hE0 hD0 hl0 q0
    go_wp2_with (at_len; refine wpList_len_own wr rfl (.tmp 31) 70 rfl 9 4 Try.underlying70 _ mb _ D rfl HOWN.out ?_; rw [HSZ.out])
    obtain ⟨W0, hW0⟩ : ∃ W0, W0 = wr.alloc (.map #[] 0) := ⟨_, rfl⟩
    have hsW : W0.heap.size = wr.heap.size + 1 := by rw [hW0]; simp
    rw [← hW0] at HM0 HE0 HD0 hq0 ⊢
    generalize heb : wr.heap.size = eb at *
    clear hW0 HE HD HOWN HSZ hcl0 q1 heb
    go_loopw [42, 11] (fun i lf W => ∃ k : Nat, k ≤ l.length ∧ i = .int .i64 (k : Int) ∧ lf = .int .i64 (leftN l c s (d : Int) k) ∧ Hid (LsR A cap l w N Bl gl capl go mb Bb s W) ∧ Hid (MapS W eb k (nmsOf l (endN l s (d : Int) k))) ∧ Hid (MarksAt W w.heap.size Ds ∧ eb < W.heap.size)) (fun i _ _ => l.length - (intOf i).toNat)
    case atStart => exact ⟨0, Nat.zero_le _, rfl, by rw [HL0.out], HE0, HM0, Lib.hid ⟨HD0.out, by omega⟩⟩
    case round =>
      clear HE0 HM0 HD0 HL0
      clear hq0 hsW
      obtain ⟨k, hk, rfl, rfl, HE, HM, HD⟩ := hrel
      by_cases hlt : k < l.length
      · obtain ⟨b, off, rfl, hb0, hc1, hc2, hc3, A', q, cc, hc4, -, -, -⟩ := (HX.out.below HE.out.bel).at_ k hlt
        have hct := HCON.out k hlt
        have HSZ := Lib.hid (HS.out.nm k hlt)
        have hle := HLN.out k
        have hee := HEN.out k
        have hlfb := HLF.out k hk
        have hdb2 := dy_bd HP.out hlt
        have hmb2 := mnA_bd HP.out hlt
        have hlfb2 := HLF.out (k + 1) hlt
        unfold rnF at hle
        change 1 ≤ (tkA l k).dy ∧ (tkA l k).dy ≤ 1000 at hdb2
        change 1 ≤ (tkA l k).mn ∧ (tkA l k).mn ≤ 16 at hmb2
        unfold dyA mnA at hle
        unfold dyA at hee
        have hUP := nms_upd (l := l) (out := endN l s (d : Int) k) (i := k)
        have hgc := (jown_at HE.out.out).2.2.1 k hlt
        have hgl := (jown_at HE.out.out).1
        have q1 : wr.cell? ⟨Bb, 0, none⟩ = some (.map (some mb)) := HE.out.cb
        have hwN := HE.out.ord.2.2
        have hk1 : (k : Int) < l.length := by omega
        have hk2 : ¬ l.length ≤ k := by omega
        have hb1 : b < wr.heap.size := by have := HE.out.bel.size; omega
        have HUP := Lib.hid hUP
        clear hUP
        generalize (tkA l k).nm = X at *
        generalize (tkA l k).dy = Y at *
        generalize (tkA l k).mn = Z at *
        have hea := fun h => HEAR.out k h
        have hE1 := HE.out.later ((Below.refl wr.heap.size wr).alloc (Nat.le_refl _) (.cells #[.string X, .int .i64 Y, .int .i64 Z, .slice A' q cc] 43))
        have hM1 := HM.out.alloc (.cells #[.string X, .int .i64 Y, .int .i64 Z, .slice A' q cc] 43)
        have hD1 : MarksAt (wr.alloc (.cells #[.string X, .int .i64 Y, .int .i64 Z, .slice A' q cc] 43)) w.heap.size Ds := HD.out.1.later ((Below.refl wr.heap.size wr).alloc (Nat.le_refl _) _) HD.out.1.lt
        have hebl := HD.out.2
        have HE1 := Lib.hid hE1
        have HM1 := Lib.hid hM1
        have HD1 := Lib.hid hD1
        have HB1 := Lib.hid hE1.map
        have hqB : (wr.alloc (.cells #[.string X, .int .i64 Y, .int .i64 Z, .slice A' q cc] 43)).cell? ⟨Bb, 0, none⟩ = some (.map (some mb)) := HE1.out.cb
        have hgcA : (wr.alloc (.cells #[.string X, .int .i64 Y, .int .i64 Z, .slice A' q cc] 43)).cell? ⟨go, k, none⟩ = some (.int .i64 (gI s.1 k)) := cell_kept hgc (World.grownBy_alloc wr _ none) (fun r e => by cases e)
        have hBbn : ¬ Bb = wr.heap.size := by omega
        have hgon : ¬ go = wr.heap.size := by omega
        clear hE1 hM1 hD1 HE HM HD
        cases hcc : s.2.contains k
        · rw [hcc] at hct hle hee
          have HLE : Hid (leftN l c s (d : Int) (k + 1) = leftN l c s (d : Int) k) := Lib.hid (by rw [hle]; simp)
          have HEE : Hid (endN l s (d : Int) (k + 1) = endN l s (d : Int) k) := Lib.hid (by rw [hee]; simp)
          have HCT := Lib.hid hct
          clear hct hle hee hcc hea hlfb hlfb2 hgcA
          go_wp2_with (at_lookup; refine wpList_mapv_bool rfl (.tmp 52) (.tmp 54) 70 rfl lawS Try.underlying70 underBo (zeroBo _) rfl HB1.out X _ rfl (keyS HSZ.out) ?_; rw [HCT.out])
          go_roundw
          case rel => exact ⟨k + 1, by omega, by go_num, by rw [HLE.out], HE1.out, Lib.hid (by rw [HEE.out]; exact HM1.out.mono (Nat.le_succ k)), Lib.hid ⟨HD1.out, by simp; omega⟩⟩
          case measure => simp [intOf]; omega
        · have hea2 := hea (by simpa using hcc)
          rw [hcc] at hct hle hee
          have HCT := Lib.hid hct
          generalize gI s.1 k = G at *
          have hwr : wrap64 (G + Y) = G + Y := IntWalk.wrap64_in _ ⟨by omega, by omega⟩
          by_cases hd : G + Y ≤ (d : Int)
          · have HLE : Hid (leftN l c s (d : Int) (k + 1) = leftN l c s (d : Int) k) := Lib.hid (by rw [hle, if_neg (by simp; omega)]; omega)
            have HEE : Hid (endN l s (d : Int) (k + 1) = endN l s (d : Int) k ++ [k]) := Lib.hid (by rw [hee, if_pos (by simp; exact hd)])
            clear hct hle hee hcc hea hlfb hlfb2
            go_wp2_with (at_lookup; refine wpList_mapv_bool rfl (.tmp 52) (.tmp 54) 70 rfl lawS Try.underlying70 underBo (zeroBo _) rfl HB1.out X _ rfl (keyS HSZ.out) ?_; rw [HCT.out])
            (refine wp_region_later (by kernel_rfl) (by kernel_rfl) ?_; (repeat (go_big_quiet_step ((fail)))); refine wpQuiet_nil ?_)
            intro w3 hb3
            have t0 : w3.cell? ⟨wr.heap.size, 0, none⟩ = some (.string X) := (hb3.cell (p := ⟨wr.heap.size, 0, none⟩) (by simp)).trans (by simp)
            have hs3 : wr.heap.size < w3.heap.size := by have := hb3.size; simp at this; omega
            have HE3 := Lib.hid (HE1.out.later hb3)
            have HM3 := Lib.hid (HM1.out.below hb3)
            have HD3 := Lib.hid (HD1.out.later hb3 HD1.out.lt)
            generalize wr.heap.size = tb at *
            clear HE1 HM1 HD1 HB1 hb3 hqB hgcA hgc
            go_wp2_with (at_mapUpdate; refine wpList_mapv_put (κ := ByteArray) rfl (.tmp 67) (.tmp 69) (.const (.bool true)) 70 rfl lawS Try.underlying70 (fun _ _ => slit_inj) (fun _ => trivial) rfl HM3.out (by unfold maxLen; omega) X true _ _ rfl rfl (keyS HSZ.out) (plainElem_bool underBo true) ?_; intro w4 hM4 hg4; go_frame)
            have hs4 := hg4.size
            go_roundw
            case rel => exact ⟨k + 1, by omega, by go_num, by rw [HLE.out], Lib.hid (HE3.out.grown hg4 (fun r e => by injection e with e; omega)), Lib.hid (by rw [HEE.out, ← HUP.out]; exact hM4), Lib.hid ⟨HD3.out.grown hg4 (fun E hE e => map_not_def HM3.out hE (by injection e)), by omega⟩⟩
            case measure => simp [intOf]; omega
          · have HLE : Hid (leftN l c s (d : Int) k - Z = leftN l c s (d : Int) (k + 1)) := Lib.hid (by rw [hle, if_pos (by simp; omega)])
            have HEE : Hid (endN l s (d : Int) (k + 1) = endN l s (d : Int) k) := Lib.hid (by rw [hee, if_neg (by rw [Bool.true_and, decide_eq_true_eq]; exact hd)])
            generalize leftN l c s (d : Int) k = LK at *
            have hwz : wrap64 (LK - Z) = LK - Z := IntWalk.wrap64_in _ ⟨by omega, by omega⟩
            clear hct hle hee hcc hea hlfb hlfb2
            go_wp2_with (at_lookup; refine wpList_mapv_bool rfl (.tmp 52) (.tmp 54) 70 rfl lawS Try.underlying70 underBo (zeroBo _) rfl HB1.out X _ rfl (keyS HSZ.out) ?_; rw [HCT.out])
            (refine wp_region_later (by kernel_rfl) (by kernel_rfl) ?_; (repeat (go_big_quiet_step ((fail)))); refine wpQuiet_nil ?_)
            intro w3 hb3
            have t2 : w3.cell? ⟨wr.heap.size, 2, none⟩ = some (.int .i64 Z) := (hb3.cell (p := ⟨wr.heap.size, 2, none⟩) (by simp)).trans (by simp)
            have hs3 : wr.heap.size < w3.heap.size := by have := hb3.size; simp at this; omega
            have HE3 := Lib.hid (HE1.out.later hb3)
            have HM3 := Lib.hid (HM1.out.below hb3)
            have HD3 := Lib.hid (HD1.out.later hb3 HD1.out.lt)
            generalize wr.heap.size = tb at *
            clear HE1 HM1 HD1 HB1 hb3 hqB hgcA hgc
            go_wp2
            go_roundw
            case rel => exact ⟨k + 1, by omega, by go_num, by rw [hwz, HLE.out], HE3, Lib.hid (by rw [HEE.out]; exact HM3.out.mono (Nat.le_succ k)), Lib.hid ⟨HD3.out, by omega⟩⟩
            case measure => simp [intOf]; omega
      · have hkn : k = l.length := by omega
        subst hkn
        have hk1 : ¬ (l.length : Int) < l.length := by omega
        have hwN := HE.out.ord.2.2
        have hebl := HD.out.2
        have q0 : wr.cell? ⟨w.heap.size, 0, none⟩ = some (.slice A l.length cap) := HE.out.cl
        have q0A : (wr.alloc (.cells #[.slice none 0 0] 32)).cell? ⟨w.heap.size, 0, none⟩ = some (.slice A l.length cap) := (HE.out.later ((Below.refl wr.heap.size wr).alloc (Nat.le_refl _) (.cells #[.slice none 0 0] 32))).cl
        have HLN2 := Lib.hid (HLF.out l.length (Nat.le_refl _))
        obtain ⟨LN, hLN⟩ : ∃ LN, LN = leftN l c s (d : Int) l.length := ⟨_, rfl⟩
        rw [← hLN] at HLN2 ⊢
        have HLL := Lib.hid hLN
        obtain ⟨W1, hW1⟩ : ∃ W1, W1 = ((wr.alloc (.cells #[.slice none 0 0] 32)).alloc (.cells #[.slice A l.length cap] 31)).alloc (.cells #[.map (some eb)] 70) := ⟨_, rfl⟩
        have hs1 : W1.heap.size = wr.heap.size + 1 + 1 + 1 := by rw [hW1]; simp
        have hB1 : Below wr.heap.size wr W1 := by rw [hW1]; exact (((Below.refl _ _).alloc (Nat.le_refl _) _).alloc (by simp) _).alloc (by simp; omega) _
        have hbx : Boxed W1 wr.heap.size 32 (.slice none 0 0) := by rw [hW1]; exact ((Boxed.new wr _ _).alloc _).alloc _
        have hcl : W1.cell? ⟨wr.heap.size + 1, 0, none⟩ = some (.slice A l.length cap) := by
          have := ((Boxed.new (wr.alloc (.cells #[.slice none 0 0] 32)) 31 (.slice A l.length cap)).alloc (.cells #[.map (some eb)] 70)).cell
          rw [World.size_alloc] at this; rw [hW1]; exact this
        have hct : W1.cell? ⟨wr.heap.size + 1 + 1, 0, none⟩ = some (.map (some eb)) := by
          have := (Boxed.new ((wr.alloc (.cells #[.slice none 0 0] 32)).alloc (.cells #[.slice A l.length cap] 31)) 70 (.map (some eb))).cell
          rw [World.size_alloc, World.size_alloc] at this; rw [hW1]; exact this
        have hM1 : MapS W1 eb l.length (nmsOf l (endN l s (d : Int) l.length)) := HM.out.below hB1
        have hX1 : Plan W1 w.heap.size A l.length l := (HX.out.below HE.out.bel).below (hB1.mono HE.out.bel.size)
        have hst := ready_stops 8 (by omega) (wr.heap.size + 1) (wr.heap.size + 1 + 1) eb l.length w.heap.size W1.heap.size wr.heap.size A l.length cap l (nmsOf l (endN l s (d : Int) l.length)) HS.out W1 ⟨⟨by omega, by omega⟩, ⟨by omega, by omega⟩, ⟨by omega, by omega⟩, by have := HE.out.bel.size; omega, by have := HE.out.bel.size; omega, Nat.le_refl _⟩ hcl hct hM1 hX1
        have hE1 := HE.out.later hB1
        have hD1 : MarksAt W1 w.heap.size Ds := HD.out.1.later hB1 HD.out.1.lt
        have hF1 : FrR W1 wr.heap.size (frP l s []) W1 := ⟨_, hbx, World.ownsRow_nil _ _ _ _, ⟨rfl, rfl, rfl, Nat.le_refl _, fun _ _ _ => rfl⟩⟩
        have HST := Lib.hid hst
        have HE1 := Lib.hid hE1
        have HD1 := Lib.hid hD1
        have HF1 := Lib.hid hF1
        have HBX1 := Lib.hid hbx
        have HDL := Lib.hid (HD.out.1.lt)
        clear hst hbx hcl hct hM1 hX1 hE1 hD1 hF1 HE HM HD hB1 hLN
        go_wp2_with (go_at_call 88; refine (ready_any _ _ _ _ _).mono ?_; rintro e w' ⟨rfl, rfl⟩)
        refine (wpIn_wide (n := 9)).1 ?_
        rw [← hW1]
        clear hW1
        generalize hBf : wr.heap.size = Bf at *
        have hBfl : Bf < W1.heap.size := by omega
        refine wpIn_rangeFunc_ownG_of_H rfl (by omega) (gf := 112) (lb := #[.pointer (some ⟨Bf + 1, 0, none⟩), .pointer (some ⟨Bf + 1 + 1, 0, none⟩)]) rfl trivial (enters_of Try.func112 (by kernel_rfl) rfl)
          HST.out KeepE.t (KeepE.b (Nat.le_refl _)) (Below.refl _ _) (fun _ => rfl)
          (fun pre W => FrR W1 Bf (frP l s pre) W)
          (fun _ _ _ => False)
          (FrR.own hBfl)
          (fun _ _ _ _ _ hs _ _ => hs)
          HF1.out
          ?act ?assign ?body ?done ?stop (fun _ => KeepE.refl _ _ _)
        case assign =>
          intro yl z W K hK
          unfold encT
          gi_wp2
          exact hK
        case body =>
          intro yl pre z W hJ hlp
          obtain ⟨v, hbx, hown, hgW⟩ := hJ
          have hi : z % l.length < l.length := Nat.mod_lt _ hLp
          have hnx := frP_next l s pre z
          have hfl : (frP l s pre).length ≤ pre.length := by unfold frP; exact Nat.le_trans (List.length_filter_le ..) (by rw [List.length_map]; exact Nat.le_refl _)
          have hcon := HCON.out _ hi
          generalize hzi : z % l.length = i at *
          have hzz : (z : Int) % (l.length : Int) = (i : Int) := by rw [← hzi]; omega
          have hLW := HE1.out.grown hgW (fun r e => by injection e with e; omega)
          obtain ⟨b, off, rfl, hb0, hc1, hc2, hc3, A', q, cc, hc4, -, -, -⟩ := (HX.out.below hLW.bel).at_ i hi
          have q0 : W.cell? ⟨w.heap.size, 0, none⟩ = some (.slice (some ⟨b, off, none⟩) l.length cap) := hLW.cl
          have q1 : W.cell? ⟨Bb, 0, none⟩ = some (.map (some mb)) := hLW.cb
          have hlk : ∀ x : Same W.drew, (Instr.lookup 70 (.map (some mb)) (.string (tkA l i).nm) false).run Try.prog x.val = .ok (.bool (s.2.contains i)) x.val := fun x => by
            rw [x.h, ← hcon]
            exact MapV.run_bool (t := 70) (hLW.later (Below.refl _ _).drew).map lawS Try.underlying70 underBo (zeroBo _) (tkA l i).nm (keyS (HS.out.nm i hi))
          have hbW : Bf < W.heap.size := hbx.lt
          have hszW := hgW.size
          have i1 : (i : Int) < l.length := by omega
          have i2 : ¬ l.length ≤ i := by omega
          have hb1 : b < W.heap.size := by have := hLW.bel.size; omega
          have hcx := hbx.cell
          have hfx := hbx.frozen
          have HOW := Lib.hid hown
          have HBX := Lib.hid hbx
          have HGW := Lib.hid hgW
          have HBD : Hid (Boxed W.drew Bf 32 v) := HBX
          have HOD : Hid (W.drew.ownsRow W1.heap.size 3 1 v (frP l s pre).length (icells (iN (frP l s pre)))) := HOW
          have HNB : Hid (some Bf ≠ v.ownBlock) := Lib.hid (fun e => by have := (HOW.out.lt Bf e.symm).1; omega)
          generalize (tkA l i).nm = X at *
          clear hLW hc2 hc3 hc4 hown hbx hgW hcon HLN2 HLL
          cases hcc : s.2.contains i
          · rw [hcc] at hnx hlk
            rw [if_neg (by decide)] at hnx
            have HAP : Hid (icells (iN (frP l s pre)) ++ [.int .i64 (i : Int)] = icells (iN (frP l s (pre ++ [z])))) := Lib.hid (by rw [hnx, iN_app, icells_app]; rfl)
            have HNX := Lib.hid hnx
            clear hnx hcc
            gi_wp2
            (refine wpIn_round_same (by kernel_rfl) (by kernel_rfl) (by kernel_rfl) ?_; (repeat (go_big_quiet_step ((fail)))); refine wpQuiet_nil ?_)
            gi_wp2_with (gi_at_builtin; go_loud (refine wpListIn_append_own _ rfl (.tmp 83) (.tmp 85) 32 rfl W1.heap.size 3 j0 (.int .i64 0) 1 8 Try.underlying32 hI0.out hI1.out hI2.out hI3.out rfl (by decide) _ _ _ rfl (HOD.out.alloc _) ⟨W.heap.size, 0, none⟩ 1 1 [.int .i64 (i : Int)] rfl rfl (jnews1 _ _ _) (jone1 _) (by unfold maxLen; omega) (by omega) (by simp; omega) ?_); intro v8 w8 hown8 hgrow8 _; rw [HAP.out] at hown8; obtain ⟨A8, cap8, rfl, -, -, -, -⟩ := own_ints hown8; have hbx8 := (HBD.out.alloc _).kept hgrow8 HNB.out; have hcx8 := hbx8.cell; have hfx8 := hbx8.frozen)
            have hgA : W.grownBy w8 v.ownBlock := ((⟨rfl, rfl, rfl, Nat.le_refl _, fun _ _ _ => rfl⟩ : W.grownBy W.drew v.ownBlock).trans (World.grownBy_alloc _ _ _)).trans hgrow8
            have hks : KeepsOthers W w8 := KeepsOthers.of_grownBy hgA (fun j o hj ho => by
              cases hc : o.isCells with
              | true => rfl
              | false => exact absurd hj (own_cells HOW.out ho hc))
            have hR : w8.ownsRow W1.heap.size 3 1 (.slice A8 ((frP l s pre).length + 1) cap8) (frP l s (pre ++ [z])).length (icells (iN (frP l s (pre ++ [z])))) := by
              have : (frP l s (pre ++ [z])).length = (frP l s pre).length + 1 := by rw [HNX.out, List.length_append]; rfl
              rw [this]; exact hown8
            refine ⟨(hks.trans (KeepsOthers.setCell _ _ _)).from _, ⟨by rw [World.size_setCell]; exact hgA.size, fun k hk hne => ((grown_set w8 Bf 0 _).block k (by have := hgA.size; omega) (fun e => hne (by injection e))).trans (hgA.block k (by omega) (fun e => by have := (HOW.out.lt k e.symm).1; omega))⟩, _, hbx8.set _, hR.kept (grown_set w8 Bf 0 _) (.inr (fun e => by have := (hR.lt Bf e).1; omega)), (HGW.out.andThen hgA (fun r e => .inl (HOW.out.lt r e).1)).trans (grown_set w8 Bf 0 _)⟩
          · rw [hcc] at hnx hlk
            rw [if_pos rfl] at hnx
            have HNX := Lib.hid hnx
            clear hnx hcc
            gi_wp2
            (refine wpIn_round_same (by kernel_rfl) (by kernel_rfl) (by kernel_rfl) ?_; (repeat (go_big_quiet_step ((fail)))); refine wpQuiet_nil ?_)
            gi_wp2
            refine ⟨(KeepsOthers.drew W).from _, KeepE.of_below (Below.refl _ _).drew (by omega), v, HBX.out, ?_, HGW.out.trans ⟨rfl, rfl, rfl, Nat.le_refl _, fun _ _ _ => rfl⟩⟩
            rw [HNX.out]
            exact HOW.out
        case done =>
          rintro Dd ys W hDd rfl hJ hK
          rw [frP_rd HP.out s (d : Int)] at hJ
          obtain ⟨v, hbx, hown, hgW⟩ := hJ
          obtain ⟨A1, cap1, rfl, hq1, hq2, -, -⟩ := own_ints hown
          have hLW := HE1.out.grown hgW (fun r e => by injection e with e; omega)
          have hfl := freeL_len l s (d : Int)
          have hsz := hgW.size
          have hD1 : MarksAt W w.heap.size Ds := HD1.out.grown hgW (fun E hE e => by
            injection e with e
            subst e
            have h1 := HBX1.out
            unfold Boxed at h1
            rw [hE] at h1; cases h1)
          have hDW : MarksAt W w.heap.size (Dd :: Ds) := hD1.cons (fun h => by have := HDL.out Dd h; omega) (by have := hLW.bel.size; omega) hK
          have hcx := hbx.cell
          have hfs : isortV (latP l) (freeL l s (d : Int)) = (trn l).filter (rdD l s.1 s.2 (d : Int)) := free_sorted HP.out _
          have hnb : ∀ b, b < N → some b ≠ (Value.slice A1 (freeL l s (d : Int)).length cap1).ownBlock := fun b hb e => by have := (hown.lt b e.symm).1; omega
          have hnb2 : some Bf ≠ (Value.slice A1 (freeL l s (d : Int)).length cap1).ownBlock := fun e => by have := (hown.lt Bf e.symm).1; omega
          have hvb : ∀ r, (Value.slice A1 (freeL l s (d : Int)).length cap1).ownBlock = some r → W1.heap.size ≤ r := fun r e => (hown.lt r e).1
          have cs := stable_any W1.heap.size (freeL l s (d : Int)).length cap1 Bl gl l.length capl A1 (latP l) (freeL l s (d : Int)) W (by omega) (by omega) hown hLW.lat (hnb Bl (by omega)) (hnb gl (by omega)) (fun x hx => freeL_lt hx)
          have hfll : (isortV (latP l) (freeL l s (d : Int))).length = (freeL l s (d : Int)).length := isortV_len _ _
          have hflt : ∀ x ∈ isortV (latP l) (freeL l s (d : Int)), x < l.length := fun x hx => by
            rw [hfs, List.mem_filter] at hx; exact ((trn_is HP.out).mem x).1 hx.1
          have hday : ((isortV (latP l) (freeL l s (d : Int))).foldl (stP l (d : Int)) (LN, s)).2 = schN l c (d + 1) := by
            have h1 := dayP_eq (most := c) HP.out HR.out.inv HR.out.inv2 (by omega)
            rw [← HS0.out] at HLL ⊢
            rw [HLL.out]
            exact h1
          generalize hFS : isortV (latP l) (freeL l s (d : Int)) = fs at *
          generalize (freeL l s (d : Int)).length = nf at *
          have HMK : (({ target := .collected Dd, args := #[] } : Deferred) :: mkD Ds) = mkD (Dd :: Ds) := rfl
          have HLW := Lib.hid hLW
          have HDW := Lib.hid hDW
          have CS := Lib.hid cs
          have HFLL := Lib.hid hfll
          have HFLT := Lib.hid hflt
          have HDAY := Lib.hid hday
          have HNB2 := Lib.hid hnb2
          have HVB := Lib.hid hvb
          have HBXW := Lib.hid hbx
          have HNDF := Lib.hid (fun E (hE : W.heap[E]? = some (Obj.deferred (some []))) => own_not_def hown hE)
          clear hLW hDW hD1 hnb cs hfs hfll hflt hday hnb2 hvb hown hgW hbx HST HE1 HD1 HF1 hFS hK
          dsimp only
          rw [HMK]
          clear HMK
          go_wp2_with fail
          refine CS.out.mono ?_
          rintro e w3 ⟨rfl, ho3, hg3⟩
          have hL3 := HLW.out.grown hg3 (fun r e => by have := HVB.out r e; omega)
          have hD3 : MarksAt w3 w.heap.size (Dd :: Ds) := HDW.out.grown hg3 (fun E hE e => HNDF.out E hE e)
          have hcx3 := (HBXW.out.kept hg3 HNB2.out).cell
          have HO3 := Lib.hid ho3
          have HL3 := Lib.hid hL3
          have HD3 := Lib.hid hD3
          clear hcx ho3 hg3 hL3 hD3 CS HLW HDW HBXW
          go_wp2_with fail
          have hQ0 : (fs.take 0).foldl (stP l (d : Int)) (LN, s) = (LN, s) := rfl
          have hQn := fun k (hk : k < fs.length) => stP_take (l := l) (d := (d : Int)) (q := (LN, s)) hk
          have hQb := fun k (hk : k ≤ fs.length) => stP_take_bd HP.out (d := (d : Int)) (q := (LN, s)) HFLT.out hk
          have hQe : (fs.take nf).foldl (stP l (d : Int)) (LN, s) = fs.foldl (stP l (d : Int)) (LN, s) := by rw [← HFLL.out, List.take_length]
          have hLN1 := HLN2.out
          obtain ⟨Q, hQ⟩ : ∃ Q : Nat → Int × Sc, Q = fun k => (fs.take k).foldl (stP l (d : Int)) (LN, s) := ⟨_, rfl⟩
          have HQ0 : Hid (Q 0 = (LN, s)) := Lib.hid (by rw [hQ]; rfl)
          have HQN : Hid (∀ k (hk : k < fs.length), Q (k + 1) = stP l (d : Int) (Q k) fs[k]) := Lib.hid (by rw [hQ]; exact hQn)
          have HQB : Hid (∀ k, k ≤ fs.length → ((Q k).1 ≤ LN ∧ LN - 16 * k ≤ (Q k).1) ∧ (Q k).2.2.length ≤ s.2.length + k) := Lib.hid (by rw [hQ]; exact hQb)
          have HQE : Hid ((Q nf).2 = schN l c (d + 1)) := Lib.hid (by rw [hQ]; dsimp only; rw [hQe]; exact HDAY.out)
          clear hQ hQ0 hQn hQb hQe HDAY
          go_loopw [92, 11] (fun i lf W => ∃ k : Nat, k ≤ nf ∧ i = .int .i64 (k : Int) ∧ lf = .int .i64 (Q k).1 ∧ Hid (LsR A cap l w N Bl gl capl go mb Bb (Q k).2 W) ∧ Hid (W.ownsRow W1.heap.size 3 1 (.slice A1 nf cap1) nf (icells (iN fs))) ∧ Hid (MarksAt W w.heap.size (Dd :: Ds))) (fun i _ _ => nf - (intOf i).toNat)
          case atStart => exact ⟨0, Nat.zero_le _, rfl, by rw [HQ0.out], Lib.hid (by rw [HQ0.out]; exact HL3.out), HO3, HD3⟩
          case round =>
            clear HL3 HO3 HD3 hcx3 HQ0
            obtain ⟨k, hk, rfl, rfl, HE, HO, HD⟩ := hrel
            by_cases hlt : k < nf
            · have hko : k < fs.length := by rw [HFLL.out]; exact hlt
              obtain ⟨A5, cap5, he, -, -, hI5, -⟩ := own_ints HO.out
              injection he with he1 he2 he3
              subst he1 he3
              obtain ⟨b5, off5, rfl, hb5, hc5⟩ := hI5.at_ k hlt
              change wr.cell? _ = some (.int .i64 (gI (iN fs) k)) at hc5
              rw [iN_at hko] at hc5
              have hn := HQN.out k hko
              have hb := HQB.out k (by omega)
              have hil := HFLT.out fs[k] (List.getElem_mem hko)
              generalize fs[k] = i at *
              obtain ⟨b, off, rfl, hb0, hc1, hc2, hc3, A', q, cc, hc4, -, -, -⟩ := (HX.out.below HE.out.bel).at_ i hil
              have hmb2 := mnA_bd HP.out hil
              have hUP := nms_upd (l := l) (out := (Q k).2.2) (i := i)
              unfold stP mnA at hn
              unfold mnA at hmb2
              have HSZ := Lib.hid (HS.out.nm i hil)
              have hgc := (jown_at HE.out.out).2.2.1 i hil
              have hgf := (jown_at HE.out.out).2.2.2 i
              have hwN := HE.out.ord.2.2
              have q0 : wr.cell? ⟨w.heap.size, 0, none⟩ = some (.slice (some ⟨b, off, none⟩) l.length cap) := HE.out.cl
              have q1 : wr.cell? ⟨Bb, 0, none⟩ = some (.map (some mb)) := HE.out.cb
              have k1 : (k : Int) < nf := by omega
              have k2 : ¬ nf ≤ k := by omega
              have i1 : (i : Int) < l.length := by omega
              have i2 : ¬ l.length ≤ i := by omega
              have hbs := HE.out.bel.size
              have hb1 : b < wr.heap.size := by omega
              have HUP := Lib.hid hUP
              generalize (tkA l i).nm = X at *
              generalize (tkA l i).mn = Z at *
              have hbl := hb.2
              have hb2 := hb.1
              generalize hLF : (Q k).1 = LF at *
              have HLF2 := Lib.hid hLF
              clear hLF
              by_cases hz : Z ≤ LF
              · rw [if_pos hz] at hn
                have HN := Lib.hid hn
                have hwz : wrap64 (LF - Z) = LF - Z := IntWalk.wrap64_in _ ⟨by omega, by omega⟩
                have HST := Lib.hid (HE.out.store i (d : Int))
                have HGO := Lib.hid (fun E (hE : wr.heap[E]? = some (Obj.deferred (some []))) => own_not_def HE.out.out hE)
                clear hn hI5 hUP hb hc2 hc4 HE
                go_wp2_with fail
                obtain ⟨W4, hW4⟩ : ∃ W4, W4 = wr.setCell ⟨go, i, none⟩ (.int .i64 (d : Int)) := ⟨_, rfl⟩
                rw [← hW4] at HST ⊢
                have hg4 : wr.grownBy W4 (some go) := by rw [hW4]; exact grown_set wr go i _
                have p0 : W4.cell? ⟨w.heap.size, 0, none⟩ = some (.slice (some ⟨b, off, none⟩) l.length cap) := HST.out.cl
                have p1 : W4.cell? ⟨Bb, 0, none⟩ = some (.map (some mb)) := HST.out.cb
                have p2 := (World.cell?_of_block (a := ⟨b, off + i * 4, none⟩) (hg4.block b hb1 (fun e => by injection e with e; omega))).trans hc1
                have HO4 := Lib.hid (HO.out.kept hg4 (.inr (fun e => by have := (HO.out.lt go e).1; omega)))
                have HD4 := Lib.hid (HD.out.grown hg4 (fun E hE e => HGO.out E hE e))
                have hb4 : b < W4.heap.size := by have := hg4.size; omega
                have HMD : Hid (MapS W4.drew mb (Q k).2.2.length (nmsOf l (Q k).2.2)) := Lib.hid (HST.out.map.below (Below.refl _ _).drew)
                have HNDM := Lib.hid (fun E (hE : W4.drew.heap[E]? = some (Obj.deferred (some []))) => map_not_def HMD.out hE)
                have hmN : mb < N := by omega
                have hNW : N ≤ W1.heap.size := by omega
                clear hW4 hg4 hc1 hgc hgf q0 q1 hc5 hb5 HO HD HGO
                (refine wp_region_tail 6 (by kernel_rfl) (by kernel_rfl) ?_; simp only [List.take_succ_cons, List.take_zero, List.drop_succ_cons, List.drop_zero]; (repeat (go_big_quiet_step ((fail)))); refine wpQuiet_nil ?_)
                go_wp2_with (at_mapUpdate; refine wpList_mapv_put (κ := ByteArray) rfl (.tmp 114) (.tmp 119) (.const (.bool true)) 70 rfl lawS Try.underlying70 (fun _ _ => slit_inj) (fun _ => trivial) rfl HMD.out (by unfold maxLen; omega) X true _ _ rfl rfl (keyS HSZ.out) (plainElem_bool underBo true) ?_; intro w6 hM6 hg6; go_frame)
                have hL6 : LsR (some ⟨b, off, none⟩) cap l w N Bl gl capl go mb Bb ((Q k).2.1.set i (d : Int), (Q k).2.2 ++ [i]) w6 := (HST.out.later (Below.refl _ _).drew).put (by
                  rw [List.length_append, ← HUP.out]; exact hM6) hg6
                have HO6 : Hid (w6.ownsRow W1.heap.size 3 1 (.slice (some ⟨b5, off5, none⟩) nf cap1) nf (icells (iN fs))) := Lib.hid ((jown_later HO4.out (Below.refl _ _).drew).kept hg6 (.inr (fun e => by have := (HO4.out.lt mb e).1; omega)))
                have HD6 : Hid (MarksAt w6 w.heap.size (Dd :: Ds)) := Lib.hid ((HD4.out.later (Below.refl _ _).drew HD4.out.lt).grown hg6 (fun E hE e => HNDM.out E hE (by injection e)))
                have HL6 := Lib.hid hL6
                clear hL6 hM6 hg6
                go_roundw
                case rel => exact ⟨k + 1, by omega, by go_num, by rw [HN.out], Lib.hid (by rw [HN.out]; exact HL6.out), HO6, HD6⟩
                case measure => simp [intOf]; omega
              · rw [if_neg hz] at hn
                have HN := Lib.hid hn
                clear hn hI5 hUP hb hc2 hc4
                go_wp2
                go_roundw
                case rel => exact ⟨k + 1, by omega, by go_num, by rw [HN.out, HLF2.out], Lib.hid (by rw [HN.out]; exact HE.out), HO, HD⟩
                case measure => simp [intOf]; omega
            · have hkn : k = nf := by omega
              subst hkn
              have k1 : ¬ (k : Int) < k := by omega
              have HF : Hid (LsR A cap l w N Bl gl capl go mb Bb (schN l c (d + 1)) wr) := Lib.hid (by rw [← HQE.out]; exact HE.out)
              have hwd : wrap64 ((d : Int) + 1) = (d : Int) + 1 := IntWalk.wrap64_in _ ⟨by omega, by omega⟩
              have hRn := HR.out.next HP.out HCM.out (by rw [show schK l c (trn l) d = s from HS0.out]; exact hfull)
              have HRN := Lib.hid hRn
              clear hRn HE
              clear HQN HQB HQE HNDF HNB2 HVB HFLT HFLL HLN2 hLN1 HLL HS0 HSL HEN HLN HLF HEAR HCON HDL HBX1 HO HCM HS HX hI0 hI1 hI2 hI3 hmm hmf
              clear hwd
              go_wp2_with fail
              have hcast : ((d : Int) + 1) = ((d + 1 : Nat) : Int) := by omega
              rw [hcast]
              exact ⟨m - 1, by omega, LsI.mk (d + 1) (Dd :: Ds) (by omega) HRN.out HF.out HD.out⟩
        case stop =>
          rintro D c pre W _ _ h _
          exact h.elim
  · have hf1 : ¬ ((schN l c d).2.length : Int) < l.length := by omega
    have HF : Hid (wr.ownsRow w.heap.size 3 1 (.slice (some ⟨go, 0, none⟩) l.length l.length) (LST l c).length (icells (LST l c))) := Lib.hid (by
      have h1 := sch_done HP.out HR.out hfull
      have h2 := jown_lt HE.out.out
      have h3 := HE.out.out
      rw [h1] at h2 h3
      rw [h2]; exact h3)
    go_wp2_with (at_len; refine wpList_len_own wr rfl (.tmp 31) 70 rfl 9 4 Try.underlying70 _ mb _ D rfl HOWN.out ?_; rw [HSZ.out])
    refine leaves_marks HD.out fun W' hW' => ?_
    exact ⟨.tuple #[.slice (some ⟨go, 0, none⟩) l.length l.length, .int .i64 0], by simp [results, Try.results45, go_sem], ⟨_, rfl, hW'.owns HD.out HF.out⟩, HE.out.bel.trans (hW'.below HD.out)⟩

set_option maxHeartbeats 4000000 in
theorem listed_any (A : Option Addr) (len cap : Nat) (l : List Tk) (c : Int) (w : World) (hS : Sml l) (h9 : checkE l = 0 → l.length ≤ 9) (hx : Plan w w.heap.size A len l) :
    Calls Try.prog 45 #[.slice A len cap, .int .i64 c] w fun e w' => (∃ v, e = .returned (.tuple #[v, .int .i64 (crewE l c)]) ∧ w'.ownsRow w.heap.size 3 1 v (lstX l c).length (icells (lstX l c))) ∧ Below w.heap.size w w' := by
  by_cases hE : crewE l c = 0
  · rw [show lstX l c = LST l c from if_pos hE, hE]
    exact listed_ok A len cap l c w hS (h9 (crew_ok hE).1) hE hx
  · rw [show lstX l c = [] from if_neg hE]
    have c1 := fun W (h : Below w.heap.size w W) => crewed_any A len cap l c W hS (hx.go h)
    have hne : (crewE l c == 0) = false := by simpa using hE
    generalize crewE l c = E at *
    have C1 := Lib.hid c1
    clear c1 hE hx hS h9
    go_enter Try.func45, Try.ntmps45
    go_wp2_with fail
    refine (C1.out _ (by repeat (first | exact Below.refl _ _ | assumption | refine Below.setCell ?_ (by first | (simp; done) | (simp; omega) | omega) _ | refine Below.drew ?_ | refine below_drewN ?_ _ | refine Below.alloc ?_ (by first | (simp; done) | (simp; omega) | omega) _ | refine below_alloc ?_ _ | refine below_step ?_ (by assumption)))).mono ?_
    rintro e w1 ⟨rfl, hb⟩
    have HB : Hid (Below w.heap.size w w1) := Lib.hid (by repeat (first | exact Below.refl _ _ | assumption | refine Below.setCell ?_ (by first | (simp; done) | (simp; omega) | omega) _ | refine Below.drew ?_ | refine below_drewN ?_ _ | refine Below.alloc ?_ (by first | (simp; done) | (simp; omega) | omega) _ | refine below_alloc ?_ _ | refine below_step ?_ (by assumption)))
    clear hb
    go_wp2_with fail
    go_ret2
    exact ⟨⟨.slice none 0 0, rfl, World.ownsRow_nil _ _ _ _⟩, HB.out⟩
end Go.Proofs.Ytgijekhlbkfanaa
