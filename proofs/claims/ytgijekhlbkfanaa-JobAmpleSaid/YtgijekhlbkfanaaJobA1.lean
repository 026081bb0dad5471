/- Plans: slices.SortStableFunc of tasks by their latest days. -/
import Derived.Test.YtgijekhlbkfanaaJobQ6
import Derived.Test.YtgijekhlbkfanaaSchN
import Derived.BigQuiet
import Derived.BigRegion
import Derived.Shelf.RegionOpenPlain
set_option linter.unusedSimpArgs false
set_option linter.unusedVariables false
namespace Go.Proofs.Ytgijekhlbkfanaa
open Go.RowKit Go.Shelf Go.Maps
attribute [local go_sem] Later.cell Same.cell

theorem nan_any (a : Int) (w : World) : Calls Try.prog 115 #[.int .i64 a] w fun e w' => e = .returned (.bool false) ∧ w = w' := by
  go_enter Try.func115, Try.ntmps115
  go_wp2
  go_ret
  exact ⟨by simp, rfl⟩
def cmpV (a b : Int) : Int := if a < b then -1 else if b < a then 1 else 0
theorem cmpV_neg {a b : Int} : cmpV a b < 0 ↔ a < b := by
  unfold cmpV
  by_cases h1 : a < b
  · rw [if_pos h1]; omega
  · rw [if_neg h1]
    by_cases h2 : b < a
    · rw [if_pos h2]; omega
    · rw [if_neg h2]; omega
set_option maxHeartbeats 1000000 in
theorem cmpI_any (a b : Int) (w : World) : Calls Try.prog 91 #[.int .i64 a, .int .i64 b] w fun e w' => e = .returned (.int .i64 (cmpV a b)) ∧ w = w' := by
  go_enter Try.func91, Try.ntmps91
  by_cases h1 : a < b
  · have hv : Hid (cmpV a b = -1) := Lib.hid (if_pos h1)
    go_wp2_with (first | (go_at_call 115; refine (nan_any _ _).mono ?_; rintro e w1 ⟨rfl, rfl⟩))
    go_ret
    exact ⟨by rw [hv.out]; rfl, rfl⟩
  · by_cases h2 : b < a
    · have hv : Hid (cmpV a b = 1) := Lib.hid (by unfold cmpV; rw [if_neg h1, if_pos h2])
      go_wp2_with (first | (go_at_call 115; refine (nan_any _ _).mono ?_; rintro e w1 ⟨rfl, rfl⟩))
      go_ret
      exact ⟨by rw [hv.out]; rfl, rfl⟩
    · have hv : Hid (cmpV a b = 0) := Lib.hid (by unfold cmpV; rw [if_neg h1, if_neg h2])
      go_wp2_with (first | (go_at_call 115; refine (nan_any _ _).mono ?_; rintro e w1 ⟨rfl, rfl⟩))
      go_ret
      exact ⟨by rw [hv.out]; rfl, rfl⟩
/-- The cell of the latest days, and these. -/
def LateAt (w : World) (Bp gl nl capl : Nat) (late : List Int) : Prop := w.cell? ⟨Bp, 0, none⟩ = some (.slice (some ⟨gl, 0, none⟩) nl capl) ∧ ∀ k, k < nl → w.cell? ⟨gl, k, none⟩ = some (.int .i64 (gI late k))
theorem LateAt.kg {w w' : World} {Bp gl nl capl g : Nat} {late : List Int} (h : LateAt w Bp gl nl capl late) (hk : KG g w w') (h1 : Bp ≠ g) (h2 : gl ≠ g) : LateAt w' Bp gl nl capl late :=
  ⟨(World.cell?_of_block (a := ⟨Bp, 0, none⟩) (hk.2 Bp h1)).trans h.1, fun k hk' => (World.cell?_of_block (a := ⟨gl, k, none⟩) (hk.2 gl h2)).trans (h.2 k hk')⟩
set_option maxHeartbeats 1000000 in
theorem late_cmp_any (Bp gl nl capl : Nat) (late : List Int) (a b : Nat) (w : World) (ha : a < nl) (hb : b < nl) (hn : nl ≤ 1000) (hL : LateAt w Bp gl nl capl late) :
    Calls Try.prog 90 #[.int .i64 a, .int .i64 b, .pointer (some ⟨Bp, 0, none⟩)] w fun e w' => e = .returned (.int .i64 (cmpV (gI late a) (gI late b))) ∧ Below w.heap.size w w' := by
  obtain ⟨h0, h1⟩ := hL
  have h2 := h1 a ha
  have h3 := h1 b hb
  have hg : gl < w.heap.size := World.block_lt_of_cell? w _ h2
  have hp : Bp < w.heap.size := World.block_lt_of_cell? w _ h0
  have a1 : (a : Int) < nl := by omega
  have a2 : ¬ nl ≤ a := by omega
  have b1 : (b : Int) < nl := by omega
  have b2 : ¬ nl ≤ b := by omega
  clear h1
  go_enter Try.func90, Try.ntmps90
  go_wp2_with fail
  (refine wp_region_later (by kernel_rfl) (by kernel_rfl) ?_; (repeat (go_big_quiet_step ((go_at_call 91; exact later_same (cmpI_any _ _ _))))); refine wpQuiet_nil ?_)
  intro w3 hb3
  go_wp2
  go_ret
  exact ⟨rfl, hb3⟩

theorem gI_mid {a : List Nat} {x : Nat} {rest : List Nat} : gI (iN (a ++ x :: rest)) a.length = (x : Int) := by
  unfold gI iN; simp
theorem iN_swap {a : List Nat} {y x : Nat} {rest : List Nat} : ((iN (a ++ y :: x :: rest)).set (a.length + 1) (y : Int)).set a.length (x : Int) = iN (a ++ x :: y :: rest) := by
  unfold iN
  induction a with
  | nil => simp
  | cons b a ih => simp
theorem iN_swap2 {a : List Nat} {y x : Nat} {rest : List Nat} : ((iN (a ++ y :: x :: rest)).set a.length (x : Int)).set (a.length + 1) (y : Int) = iN (a ++ x :: y :: rest) := by
  unfold iN
  induction a with
  | nil => simp
  | cons b a ih => simp
/-- The row behind the insertion of its first k. -/
def insK (late : List Int) (xs : List Nat) (k : Nat) : List Nat := isortV late (xs.take k) ++ xs.drop k
theorem insK_one {late : List Int} {xs : List Nat} : insK late xs 1 = xs := by
  cases xs with
  | nil => rfl
  | cons x xs => rfl
theorem insK_end {late : List Int} {xs : List Nat} {k : Nat} (h : xs.length ≤ k) : insK late xs k = isortV late xs := by
  unfold insK; rw [List.take_of_length_le h, List.drop_eq_nil_of_le h, List.append_nil]
theorem insK_split {late : List Int} {xs : List Nat} {k : Nat} (h : k < xs.length) : ∃ a x rest, a.length = k ∧ insK late xs k = a ++ x :: rest ∧ insV late a.reverse x ++ rest = insK late xs (k + 1) := by
  refine ⟨isortV late (xs.take k), xs[k], xs.drop (k + 1), ?_, ?_, ?_⟩
  · rw [isortV_len, List.length_take]; omega
  · unfold insK; rw [List.drop_eq_getElem_cons h]
  · unfold insK
    rw [List.take_succ_eq_append_getElem h]
    unfold isortV
    rw [List.foldl_append]; rfl
theorem grown_set (W : World) (g i : Nat) (v : Value) : W.grownBy (W.setCell ⟨g, i, none⟩ v) (some g) := ⟨rfl, rfl, rfl, by rw [World.size_setCell]; exact Nat.le_refl _, fun b _ hb => Below.heap_setCell W ⟨g, i, none⟩ v b (fun e => hb (by rw [e]))⟩
structure SoR (w : World) (base g n cap Bp gl nl capl : Nat) (late : List Int) (ys : List Nat) (W : World) : Prop where
  own : W.ownsRow base 3 1 (.slice (some ⟨g, 0, none⟩) n cap) n (icells (iN ys))
  kg : w.grownBy W (some g)
  lat : LateAt W Bp gl nl capl late
  lt : ∀ x ∈ ys, x < nl
theorem LateAt.later {w w' : World} {Bp gl nl capl : Nat} {late : List Int} (h : LateAt w Bp gl nl capl late) (hb : Below w.heap.size w w') : LateAt w' Bp gl nl capl late :=
  ⟨(hb.cell (p := ⟨Bp, 0, none⟩) (World.block_lt_of_cell? w _ h.1)).trans h.1, fun k hk => (hb.cell (p := ⟨gl, k, none⟩) (World.block_lt_of_cell? w _ (h.2 k hk))).trans (h.2 k hk)⟩
theorem SoR.later {w : World} {base g n cap Bp gl nl capl : Nat} {late : List Int} {ys : List Nat} {W W' : World} (h : SoR w base g n cap Bp gl nl capl late ys W) (hb : Below W.heap.size W W') : SoR w base g n cap Bp gl nl capl late ys W' :=
  ⟨jown_later h.own hb, h.kg.trans ⟨hb.os, hb.tape, hb.output, hb.size, fun k hk _ => hb.block k hk⟩, h.lat.later hb, h.lt⟩
theorem SoR.swap {w : World} {base g n cap Bp gl nl capl : Nat} {late : List Int} {a rest : List Nat} {x y : Nat} {W : World} (h : SoR w base g n cap Bp gl nl capl late (a ++ y :: x :: rest) W) (h1 : Bp ≠ g) (h2 : gl ≠ g) :
    SoR w base g n cap Bp gl nl capl late (a ++ x :: y :: rest) ((W.setCell ⟨g, a.length + 1, none⟩ (.int .i64 y)).setCell ⟨g, a.length, none⟩ (.int .i64 x)) ∧ SoR w base g n cap Bp gl nl capl late (a ++ x :: y :: rest) ((W.setCell ⟨g, a.length, none⟩ (.int .i64 x)).setCell ⟨g, a.length + 1, none⟩ (.int .i64 y)) := by
  have hl : ∀ z ∈ a ++ x :: y :: rest, z < nl := fun z hz => h.lt z (by simp at hz ⊢; rcases hz with h | h | h | h <;> simp [h])
  have k1 := ((KG.refl g W).set (a.length + 1) (.int .i64 y)).set a.length (.int .i64 x)
  have k2 := ((KG.refl g W).set a.length (.int .i64 x)).set (a.length + 1) (.int .i64 y)
  have g1 := fun (V : World) i v => grown_set V g i v
  refine ⟨⟨?_, (h.kg.trans (g1 W _ _)).trans (g1 _ _ _), h.lat.kg k1 h1 h2, hl⟩, ⟨?_, (h.kg.trans (g1 W _ _)).trans (g1 _ _ _), h.lat.kg k2 h1 h2, hl⟩⟩
  · rw [← iN_swap]
    exact (jown_store (jown_store h.own (a.length + 1) y).1 a.length x).1
  · rw [← iN_swap2]
    exact (jown_store (jown_store h.own a.length x).1 (a.length + 1) y).1
theorem SoR.drew {w : World} {base g n cap Bp gl nl capl : Nat} {late : List Int} {ys : List Nat} {W : World} (h : SoR w base g n cap Bp gl nl capl late ys W) : SoR w base g n cap Bp gl nl capl late ys W.drew := h.later (Below.refl _ _).drew
set_option maxRecDepth 20000 in
set_option maxHeartbeats 8000000 in
theorem isort_any (base g n cap Bp gl nl capl : Nat) (late : List Int) (xs : List Nat) (w : World) (hn : n ≤ 1000) (hn0 : 1 ≤ n) (hnl : nl ≤ 1000) (ho : w.ownsRow base 3 1 (.slice (some ⟨g, 0, none⟩) n cap) n (icells (iN xs)))
    (hL : LateAt w Bp gl nl capl late) (h1 : Bp ≠ g) (h2 : gl ≠ g) (hlt : ∀ x ∈ xs, x < nl) :
    Calls Try.prog 121 #[.slice (some ⟨g, 0, none⟩) n cap, .int .i64 0, .int .i64 n, .func (.func 90) #[] #[.pointer (some ⟨Bp, 0, none⟩)]] w fun e w' => e = .returned (.tuple #[]) ∧ SoR w base g n cap Bp gl nl capl late (isortV late xs) w' := by
  have hxl : xs.length = n := by have := jown_lt ho; rw [iN_len] at this; exact this
  have H0 : Hid (SoR w base g n cap Bp gl nl capl late (insK late xs 1) w) := Lib.hid (by rw [insK_one]; exact ⟨ho, ⟨rfl, rfl, rfl, Nat.le_refl _, fun _ _ _ => rfl⟩, hL, hlt⟩)
  have hxl2 := Lib.hid hxl
  have H1 := Lib.hid h1
  have H2 := Lib.hid h2
  clear ho hL hlt hxl h1 h2
  go_enter Try.func121, Try.ntmps121
  go_wp2
  go_loopw [8] (fun i W => ∃ k : Nat, (1 ≤ k ∧ k ≤ n) ∧ i = .int .i64 k ∧ Hid (SoR w base g n cap Bp gl nl capl late (insK late xs k) W)) (fun i _ => n - (intOf i).toNat)
  case atStart => exact ⟨1, ⟨Nat.le_refl _, hn0⟩, rfl, H0⟩
  case round =>
    clear H0
    obtain ⟨k, ⟨hk1, hk2⟩, rfl, HE⟩ := hrel
    by_cases hlt : k < n
    · obtain ⟨a, x, rest, ha, hs, ht⟩ := insK_split (late := late) (xs := xs) (k := k) (by rw [hxl2.out]; exact hlt)
      rw [hs] at HE
      have HT := Lib.hid ht
      have hk3 : (k : Int) < n := by omega
      have HA := Lib.hid ha
      clear hs ht ha
      go_wp2
      go_loopw [9] (fun j W => ∃ (a : List Nat) (x : Nat) (rest : List Nat) (q : Nat), Hid (a.length = q) ∧ (q ≤ k) ∧ j = .int .i64 q ∧ Hid (insV late a.reverse x ++ rest = insK late xs (k + 1)) ∧ Hid (SoR w base g n cap Bp gl nl capl late (a ++ x :: rest) W)) (fun j _ => (intOf j).toNat)
      case atStart => exact ⟨a, x, rest, k, HA, Nat.le_refl _, rfl, HT, HE⟩
      case round =>
        clear HE HT HA
        clear a x rest
        obtain ⟨a, x, rest, q, HA, hqk, rfl, HT, HE⟩ := hrel
        rcases Nat.eq_zero_or_pos q with hq0 | hq0
        · have HF : Hid (SoR w base g n cap Bp gl nl capl late (insK late xs (k + 1)) wr) := Lib.hid (by
            have ha : a = [] := List.eq_nil_of_length_eq_zero (by rw [HA.out, hq0])
            rw [← HT.out]
            have := HE.out
            rw [ha] at this ⊢
            exact this)
          subst hq0
          clear HE HT HA
          go_wp2_with fail
          (refine wp_region_later (by kernel_rfl) (by kernel_rfl) ?_; (repeat (go_big_quiet_step ((fail)))); refine wpQuiet_nil ?_)
          intro w3 hb3
          go_wp2
          go_roundw
          case rel => exact ⟨k + 1, ⟨by omega, by omega⟩, by go_num, Lib.hid (HF.out.later hb3)⟩
          case measure => simp [intOf]; omega
        · obtain ⟨a', y, rfl⟩ : ∃ a' y, a = a' ++ [y] := by
            rcases List.eq_nil_or_concat a with rfl | ⟨a', y, rfl⟩
            · have := HA.out; simp at this; omega
            · exact ⟨a', y, by rw [List.concat_eq_append]⟩
          obtain ⟨r, hr⟩ : ∃ r, r = a'.length := ⟨_, rfl⟩
          have hqr : q = r + 1 := by have := HA.out; simp at this; omega
          have HE2 : Hid (SoR w base g n cap Bp gl nl capl late (a' ++ y :: x :: rest) wr) := Lib.hid (by have := HE.out; simpa using this)
          obtain ⟨hgs, -, hgc, hgf⟩ := jown_at HE2.out.own
          have hrn : r + 1 < n := by omega
          have hc1 := hgc r (by omega)
          have hc2 := hgc (r + 1) (by omega)
          have hf1 := hgf r
          have hf2 := hgf (r + 1)
          have e1 : gI (iN (a' ++ y :: x :: rest)) r = y := by rw [hr]; exact gI_mid
          have e2 : gI (iN (a' ++ y :: x :: rest)) (r + 1) = x := by rw [hr]; have := gI_mid (a := a' ++ [y]) (x := x) (rest := rest); simpa using this
          rw [e1] at hc1
          rw [e2] at hc2
          have hxl : x < nl := HE2.out.lt x (by simp)
          have hyl : y < nl := HE2.out.lt y (by simp)
          have hcmp := fun W (h : Below wr.heap.size wr W) => late_cmp_any Bp gl nl capl late x y W hxl hyl hnl (HE2.out.lat.later h)
          have HCM := Lib.hid hcmp
          have hlf := HT.out
          rw [List.reverse_append] at hlf
          change insV late (y :: a'.reverse) x ++ rest = _ at hlf
          rw [insV] at hlf
          have HR := Lib.hid hr
          subst hqr
          have z1 : (r : Int) + 1 < n := by omega
          have z2 : (r : Int) < n := by omega
          have z3 : (0 : Int) < (r : Int) + 1 := by omega
          have z4 : (0 : Int) ≤ (r : Int) + 1 := by omega
          have z5 : ((r : Int) + 1).toNat = r + 1 := by omega
          have hnn : n ≤ 9223372036854775807 := by omega
          have hwr2 : wrap64 (r : Int) = (r : Int) := IntWalk.wrap64_in _ ⟨by omega, by omega⟩
          by_cases hv : gI late x < gI late y
          · rw [if_pos hv] at hlf
            have hcv : cmpV (gI late x) (gI late y) < 0 := cmpV_neg.2 hv
            have HTT : Hid (insV late a'.reverse x ++ y :: rest = insK late xs (k + 1)) := Lib.hid (by rw [← hlf]; simp)
            generalize cmpV (gI late x) (gI late y) = CV at *
            clear hlf hv HT HE HA hgc hgf e1 e2 hr hcmp
            go_wp2_with fail
            (refine wp_region_later (by kernel_rfl) (by kernel_rfl) ?_; (repeat (go_big_quiet_step ((go_at_call 90; exact later_call (HCM.out _ (‹Later _›).h))))); refine wpQuiet_nil ?_)
            intro w3 hb3
            have HSW := Lib.hid ((HE2.out.later hb3).drew.swap H1.out H2.out)
            have d1 := (hb3.cell (p := ⟨g, r, none⟩) hgs).trans hc1
            have d2 := (hb3.cell (p := ⟨g, r + 1, none⟩) hgs).trans hc2
            have k1 := (hb3.frozen (p := ⟨g, r, none⟩) hgs).trans hf1
            have k2 := (hb3.frozen (p := ⟨g, r + 1, none⟩) hgs).trans hf2
            obtain ⟨r1, hr1⟩ : ∃ r1, r1 = r + 1 := ⟨_, rfl⟩
            rw [← hr1] at d2 k2 z5
            have HR1 := Lib.hid hr1
            clear HE2 HCM hc1 hc2 hf1 hf2 hb3 hcv hr1
            go_wp2_with fail
            go_big_region
            all_goals go_wp2
            all_goals go_roundw
            case rel => exact ⟨a', x, y :: rest, r, Lib.hid HR.out.symm, by omega, rfl, HTT, Lib.hid (by rw [HR1.out, HR.out]; first | exact HSW.out.1 | exact HSW.out.2)⟩
            case measure => simp [intOf]
          · have HF : Hid (SoR w base g n cap Bp gl nl capl late (insK late xs (k + 1)) wr) := Lib.hid (by
              rw [if_neg hv] at hlf
              rw [← hlf]
              have := HE.out
              simpa using this)
            have hcv : ¬ cmpV (gI late x) (gI late y) < 0 := fun hh => hv (cmpV_neg.1 hh)
            generalize cmpV (gI late x) (gI late y) = CV at *
            clear hlf hv HT HE HA hgc hgf e1 e2 hr hcmp
            go_wp2_with fail
            (refine wp_region_later (by kernel_rfl) (by kernel_rfl) ?_; (repeat (go_big_quiet_step ((go_at_call 90; exact later_call (HCM.out _ (‹Later _›).h))))); refine wpQuiet_nil ?_)
            intro w3 hb3
            have HF3 := Lib.hid (HF.out.later hb3)
            clear HE2 HCM hc1 hc2 hf1 hf2 hb3 HF
            go_wp2
            go_roundw
            case rel => exact ⟨k + 1, ⟨by omega, by omega⟩, by go_num, HF3⟩
            case measure => simp [intOf]; omega
    · have hk : ¬ (k : Int) < n := by omega
      have HF : Hid (SoR w base g n cap Bp gl nl capl late (isortV late xs) wr) := Lib.hid (by rw [← insK_end (k := k) (by rw [hxl2.out]; omega)]; exact HE.out)
      clear HE
      go_wp2
      go_end0
      exact ⟨rfl, HF.out⟩
set_option maxHeartbeats 2000000 in
theorem isort0_any (A : Option Addr) (cap : Nat) (f : Value) (w : World) :
    Calls Try.prog 121 #[.slice A 0 cap, .int .i64 0, .int .i64 0, f] w fun e w' => e = .returned (.tuple #[]) ∧ w = w' := by
  go_enter Try.func121, Try.ntmps121
  go_wp2
  go_loopw [8] (fun i W => i = .int .i64 1 ∧ w = W) (fun i _ => 0)
  case atStart => exact ⟨rfl, rfl⟩
  case round =>
    obtain ⟨rfl, rfl⟩ := hrel
    go_wp2
    go_end0
    exact ⟨rfl, rfl⟩
set_option maxHeartbeats 4000000 in
theorem stable_any (base n cap Bp gl nl capl : Nat) (A : Option Addr) (late : List Int) (xs : List Nat) (w : World) (hn : n < 20) (hnl : nl ≤ 1000) (ho : w.ownsRow base 3 1 (.slice A n cap) n (icells (iN xs)))
    (hL : LateAt w Bp gl nl capl late) (h1 : some Bp ≠ (Value.slice A n cap).ownBlock) (h2 : some gl ≠ (Value.slice A n cap).ownBlock) (hlt : ∀ x ∈ xs, x < nl) :
    Calls Try.prog 89 #[.slice A n cap, .func (.func 90) #[] #[.pointer (some ⟨Bp, 0, none⟩)]] w fun e w' => e = .returned (.tuple #[]) ∧ w'.ownsRow base 3 1 (.slice A n cap) n (icells (iN (isortV late xs))) ∧ w.grownBy w' (Value.slice A n cap).ownBlock := by
  have hxl : xs.length = n := by have := jown_lt ho; rw [iN_len] at this; exact this
  have key : ∀ W, w = W → Calls Try.prog 121 #[.slice A n cap, .int .i64 0, .int .i64 n, .func (.func 90) #[] #[.pointer (some ⟨Bp, 0, none⟩)]] W fun e w' => e = .returned (.tuple #[]) ∧ w'.ownsRow base 3 1 (.slice A n cap) n (icells (iN (isortV late xs))) ∧ W.grownBy w' (Value.slice A n cap).ownBlock := by
    rintro W rfl
    rcases Nat.eq_zero_or_pos n with h0 | h0
    · subst h0
      have hx : xs = [] := List.eq_nil_of_length_eq_zero hxl
      refine (isort0_any A cap _ w).mono ?_
      rintro e w' ⟨rfl, rfl⟩
      refine ⟨rfl, ?_, ⟨rfl, rfl, rfl, Nat.le_refl _, fun _ _ _ => rfl⟩⟩
      rw [hx] at ho ⊢
      exact ho
    · obtain ⟨g, rfl⟩ : ∃ g, A = some ⟨g, 0, none⟩ := by
        rcases ho.2 with ⟨h', _, h3, _⟩ | ⟨g', cap', cur, h', _⟩
        · exfalso
          rw [Value.slice.injEq] at h'
          omega
        · rw [Value.slice.injEq] at h'
          exact ⟨g', h'.1⟩
      refine (isort_any base g n cap Bp gl nl capl late xs w (by omega) h0 hnl ho hL (fun e => h1 (by rw [e]; rfl)) (fun e => h2 (by rw [e]; rfl)) hlt).mono ?_
      rintro e w' ⟨rfl, hS⟩
      exact ⟨rfl, hS.own, hS.kg⟩
  have K1 := Lib.hid key
  have hn1 : ¬ 20 ≤ n := by omega
  have hn2 : ¬ (20 : Int) ≤ n := by omega
  have hn3 : ¬ (20 : Int) < n := by omega
  clear key ho hL h1 h2 hlt hxl
  have key2 : Calls Try.prog 114 #[.slice A n cap, .int .i64 n, .func (.func 90) #[] #[.pointer (some ⟨Bp, 0, none⟩)]] w fun e w' => e = .returned (.tuple #[]) ∧ w'.ownsRow base 3 1 (.slice A n cap) n (icells (iN (isortV late xs))) ∧ w.grownBy w' (Value.slice A n cap).ownBlock := by
    go_enter Try.func114, Try.ntmps114
    go_wp2
    go_loopw [7, 8] (fun x y W => x = .int .i64 0 ∧ y = .int .i64 20 ∧ w = W) (fun _ _ _ => 0)
    case atStart => exact ⟨rfl, rfl, rfl⟩
    case round =>
      obtain ⟨rfl, rfl, rfl⟩ := hrel
      go_wp2_with fail
      refine (K1.out _ rfl).mono ?_
      rintro e w' ⟨rfl, hR⟩
      have HR := Lib.hid hR
      clear hR
      go_wp2
      go_loopw [6] (fun x W => x = .int .i64 20 ∧ w' = W) (fun _ _ => 0)
      case atStart => exact ⟨rfl, rfl⟩
      case round =>
        obtain ⟨rfl, rfl⟩ := hrel
        go_wp2
        go_end0
        exact ⟨rfl, HR.out⟩
  have K2 := Lib.hid key2
  clear key2 K1
  go_enter Try.func89, Try.ntmps89
  go_wp2_with fail
  refine K2.out.mono ?_
  rintro e w' ⟨rfl, hR⟩
  have HR := Lib.hid hR
  clear hR
  go_wp2
  go_end0
  exact ⟨rfl, HR.out⟩
end Go.Proofs.Ytgijekhlbkfanaa
