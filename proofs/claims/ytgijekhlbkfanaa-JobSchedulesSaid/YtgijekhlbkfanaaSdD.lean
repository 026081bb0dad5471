/- Joined by merge.py from: JobT JobS1 JobS3 JobB7. -/
import Derived.Test.YtgijekhlbkfanaaJobC
import Derived.Test.YtgijekhlbkfanaaJobQ9
import Derived.Test.YtgijekhlbkfanaaSdB
import Derived.Test.YtgijekhlbkfanaaJobQ2
import Derived.Test.YtgijekhlbkfanaaSdC
set_option linter.unusedSimpArgs false
set_option linter.unusedVariables false
namespace Go.Proofs.Ytgijekhlbkfanaa

/-- One task of the reference's walk. -/
def wtS (l : List Tk) (i : Nat) (R : Nat → Bool) (t : Nat) : Nat → Bool := fun j => R j || (decide (j = t) && (afs l t).any fun a => decide (a = i) || R a)
def wtK (l : List Tk) (i k : Nat) : Nat → Bool := ((ord l).take k).foldl (wtS l i) (fun _ => false)
def wtR (l : List Tk) (i : Nat) : Nat → Bool := (ord l).foldl (wtS l i) (fun _ => false)
def wtL (l : List Tk) (i : Nat) : List Nat := (List.range l.length).filter (wtR l i)
def wtX (l : List Tk) (s : ByteArray) : List Nat := if nmE l s = 0 then wtL l (fnd l s) else []
/-- One task of the program's walk: the names that wait. -/
def wmC (l : List Tk) (M : ByteArray → Option Bool) (t : Nat) : Bool := (tkA l t).af.any fun s => (M s).getD false
def wmS (l : List Tk) (M : ByteArray → Option Bool) (t : Nat) : ByteArray → Option Bool := if wmC l M t then upd M (tkA l t).nm true else M
def wm0 (s : ByteArray) : ByteArray → Option Bool := upd (fun _ => none) s true
def wmK (l : List Tk) (s : ByteArray) (k : Nat) : ByteArray → Option Bool := ((ord l).take k).foldl (wmS l) (wm0 s)
theorem wmK_next {l : List Tk} {s : ByteArray} {k : Nat} (hk : k < (ord l).length) : wmK l s (k + 1) = wmS l (wmK l s k) (ord l)[k] := by
  unfold wmK
  rw [List.take_succ_eq_append_getElem hk, List.foldl_append]
  rfl
theorem wtK_next {l : List Tk} {i : Nat} {k : Nat} (hk : k < (ord l).length) : wtK l i (k + 1) = wtS l i (wtK l i k) (ord l)[k] := by
  unfold wtK
  rw [List.take_succ_eq_append_getElem hk, List.foldl_append]
  rfl
theorem wtK_all {l : List Tk} {i : Nat} : wtK l i (ord l).length = wtR l i := by unfold wtK wtR; rw [List.take_length]
def MR (l : List Tk) (i : Nat) (M : ByteArray → Option Bool) (R : Nat → Bool) : Prop := ∀ j, j < l.length → (M (tkA l j).nm).getD false = (decide (j = i) || R j)
theorem MR.step {l : List Tk} (h : okP l) {i t : Nat} (ht : t < l.length) {M : ByteArray → Option Bool} {R : Nat → Bool} (hM : MR l i M R) : MR l i (wmS l M t) (wtS l i R t) ∧ wmC l M t = (afs l t).any fun a => decide (a = i) || R a := by
  have hc : wmC l M t = (afs l t).any fun a => decide (a = i) || R a := by
    unfold wmC afs
    rw [List.any_map, Bool.eq_iff_iff, List.any_eq_true, List.any_eq_true]
    have hs : ∀ s ∈ (tkA l t).af, (M s).getD false = ((fun a => decide (a = i) || R a) ∘ fnd l) s := fun s hs => by
      have hk := h.known t ht s hs
      have := hM (fnd l s) hk
      rw [fnd_at hk] at this
      exact this
    constructor
    · rintro ⟨s, h1, h2⟩; exact ⟨s, h1, by rw [← hs s h1]; exact h2⟩
    · rintro ⟨s, h1, h2⟩; exact ⟨s, h1, by rw [hs s h1]; exact h2⟩
  refine ⟨fun j hj => ?_, hc⟩
  unfold wmS wtS
  rw [hc]
  cases (afs l t).any fun a => decide (a = i) || R a
  · simp only [Bool.false_eq_true, if_false, Bool.and_false, Bool.or_false]
    exact hM j hj
  · simp only [if_true, Bool.and_true]
    by_cases hjt : j = t
    · subst hjt
      rw [upd_same]
      simp
    · have hne : (tkA l j).nm ≠ (tkA l t).nm := fun e => by
        have h1 := h.apart j hj
        rw [e, h.apart t ht] at h1
        exact hjt h1.symm
      rw [upd_other hne, hM j hj, decide_eq_false hjt, Bool.or_false]
theorem MR.all {l : List Tk} (h : okP l) {i : Nat} (hi : i < l.length) (k : Nat) (hk : k ≤ (ord l).length) : MR l i (wmK l (tkA l i).nm k) (wtK l i k) := by
  induction k with
  | zero =>
    intro j hj
    show (upd (fun _ => none) (tkA l i).nm true (tkA l j).nm).getD false = (decide (j = i) || false)
    by_cases hji : j = i
    · subst hji; rw [upd_same]; simp
    · have hne : (tkA l j).nm ≠ (tkA l i).nm := fun e => by
        have h1 := h.apart j hj
        rw [e, h.apart i hi] at h1
        exact hji h1.symm
      rw [upd_other hne, decide_eq_false hji]
      rfl
  | succ k ih =>
    rw [wmK_next hk, wtK_next hk]
    exact (MR.step h (ord_lt (List.getElem_mem hk)) (ih (by omega))).1
theorem wtK_ear {l : List Tk} (h : okP l) {i : Nat} (k : Nat) (hk : k ≤ (ord l).length) : ∀ j, wtK l i k j = true → gI (ear l) i < gI (ear l) j := by
  induction k with
  | zero => intro j hj; exact absurd hj (by show ¬ false = true; decide)
  | succ k ih =>
    intro j hj
    rw [wtK_next hk] at hj
    unfold wtS at hj
    rw [Bool.or_eq_true, Bool.and_eq_true, decide_eq_true_eq, List.any_eq_true] at hj
    rcases hj with hj | ⟨rfl, a, ha, hj⟩
    · exact ih (by omega) j hj
    · have hl := ord_lt (List.getElem_mem (l := ord l) (n := k) hk)
      have h1 := ear_le h hl ha
      have h2 := (dy_bd h (afs_lt h hl ha)).1
      rw [Bool.or_eq_true, decide_eq_true_eq] at hj
      rcases hj with rfl | hj
      · omega
      · have := ih (by omega) a hj; omega
/-- What is left in the map when the name is struck. -/
theorem wm_end {l : List Tk} (h : okP l) {i j : Nat} (hi : i < l.length) (hj : j < l.length) : (dlt (wmK l (tkA l i).nm (ord l).length) (tkA l i).nm (tkA l j).nm).getD false = wtR l i j := by
  by_cases hji : j = i
  · subst hji
    rw [dlt_same]
    show false = _
    symm
    rw [Bool.eq_false_iff]
    intro hh
    rw [← wtK_all] at hh
    have := wtK_ear h _ (Nat.le_refl _) _ hh
    omega
  · have hne : (tkA l j).nm ≠ (tkA l i).nm := fun e => by
      have h1 := h.apart j hj
      rw [e, h.apart i hi] at h1
      exact hji h1.symm
    rw [dlt_other hne, MR.all h hi _ (Nat.le_refl _) j hj, decide_eq_false hji, Bool.false_or, wtK_all]
def wtT (l : List Tk) (i k : Nat) : List Nat := (List.range k).filter (wtR l i)
theorem wtT_next {l : List Tk} {i k : Nat} : wtT l i (k + 1) = if wtR l i k then wtT l i k ++ [k] else wtT l i k := by
  unfold wtT
  rw [List.range_succ, List.filter_append]
  cases hc : wtR l i k <;> simp [hc]
theorem wtT_len {l : List Tk} {i k : Nat} : (wtT l i k).length ≤ k := by
  have := List.length_filter_le (wtR l i) (List.range k)
  rw [List.length_range] at this
  exact this
end Go.Proofs.Ytgijekhlbkfanaa

namespace Go.Proofs.Ytgijekhlbkfanaa
open Go.RowKit
attribute [local go_sem] Later.cell Same.cell

set_option maxRecDepth 20000 in
set_option maxHeartbeats 8000000 in
theorem rnamed_any (A : Option Addr) (len cap : Nat) (l : List Tk) (s : ByteArray) (w : World) (hS : Sml l) (hs : s.size ≤ 9223372036854775807) (hx : Plan w w.heap.size A len l) :
    Calls Try.prog 79 #[.slice A len cap, .string s] w fun e w' => e = .returned (.tuple #[.int .i64 (nmV l s), .int .i64 (nmE l s)]) ∧ Below w.heap.size w w' := by
  obtain rfl : l.length = len := hx.1
  have c1 := rCheck_any A l.length cap l w hS hx
  have c2 := fun W (h : Below w.heap.size w W) => find_any A l.length cap l s W (by have := hS.len; omega) (hx.go h)
  rcases nm_cases l s with ⟨h0, h1, h2, h3⟩ | ⟨h0, h1, h2, h3⟩ | ⟨h0, h2, h3⟩
  · rw [h2, h3]
    rw [h0] at c1
    have hf : fndZ l s = (fnd l s : Int) := by unfold fndZ; rw [if_pos h1]
    simp only [hf] at c2
    generalize fnd l s = F at *
    have C1 := Lib.hid c1
    have C2 := Lib.hid c2
    have hF : ¬ (F : Int) < 0 := by omega
    clear c1 c2 hx h0 h1 h2 h3 hf
    go_enter Try.func79, Try.ntmps79
    go_wp2_with fail
    refine C1.out.mono ?_
    rintro e w1 ⟨rfl, hb⟩
    have HB1 := Lib.hid hb
    clear hb
    go_wp2_with fail
    refine (C2.out _ HB1.out).mono ?_
    rintro e w2 ⟨rfl, hb⟩
    have HB2 := Lib.hid (HB1.out.trans (hb.mono HB1.out.size))
    clear hb
    go_wp2
    go_ret2
    exact ⟨rfl, HB2.out⟩
  · rw [h2, h3]
    rw [h0] at c1
    have hf : fndZ l s = -1 := by unfold fndZ; rw [if_neg h1]
    simp only [hf] at c2
    have C1 := Lib.hid c1
    have C2 := Lib.hid c2
    clear c1 c2 hx h0 h1 h2 h3 hf
    go_enter Try.func79, Try.ntmps79
    go_wp2_with fail
    refine C1.out.mono ?_
    rintro e w1 ⟨rfl, hb⟩
    have HB1 := Lib.hid hb
    clear hb
    go_wp2_with fail
    refine (C2.out _ HB1.out).mono ?_
    rintro e w2 ⟨rfl, hb⟩
    have HB2 := Lib.hid (HB1.out.trans (hb.mono HB1.out.size))
    clear hb
    go_wp2
    go_ret2
    exact ⟨rfl, HB2.out⟩
  · rw [h2, h3]
    have hne : (checkE l == 0) = false := by simpa using h0
    generalize checkE l = E at *
    have C1 := Lib.hid c1
    clear c1 c2 hx h0 h2 h3
    go_enter Try.func79, Try.ntmps79
    go_wp2_with fail
    refine C1.out.mono ?_
    rintro e w1 ⟨rfl, hb⟩
    have HB1 := Lib.hid hb
    clear hb
    go_wp2
    go_ret2
    exact ⟨rfl, HB1.out⟩
set_option maxRecDepth 20000 in
set_option maxHeartbeats 16000000 in
theorem rSlack_any (A : Option Addr) (len cap : Nat) (l : List Tk) (s : ByteArray) (w : World) (hS : Sml l) (hs : s.size ≤ 9223372036854775807) (hx : Plan w w.heap.size A len l) :
    Calls Try.prog 36 #[.slice A len cap, .string s] w fun e w' => e = .returned (.tuple #[.int .i64 (slkV l s), .int .i64 (nmE l s)]) ∧ Below w.heap.size w w' := by
  obtain rfl : l.length = len := hx.1
  have c1 := rnamed_any A l.length cap l s w hS hs hx
  by_cases h0 : nmE l s = 0
  · have hv : slkV l s = slk l (fnd l s) := if_pos h0
    have hn : nmV l s = (fnd l s : Int) := by unfold nmV; rw [if_pos h0]
    have hc : checkE l = 0 ∧ fnd l s < l.length := by
      rcases nm_cases l s with ⟨a, b, -⟩ | ⟨-, -, a, -⟩ | ⟨a, b, -⟩
      · exact ⟨a, b⟩
      · rw [h0] at a; cases a
      · rw [h0] at b; exact absurd b.symm a
    have hP := check_spec hc.1
    have c3 := fun W (h : Below w.heap.size w W) => rearliest_any A l.length cap l W hS hP (hx.go h)
    have c4 := fun W (h : Below w.heap.size w W) => (rlatest_any A l.length cap l W hS hP (hx.go h))
    simp only [← lat_eq hP] at c4
    have hse : slk l (fnd l s) = gI (latP l) (fnd l s) - gI (ear l) (fnd l s) := rfl
    rw [hn, h0] at c1
    rw [hv, h0]
    have hF := hc.2
    have hb1 := ear_bd hP (fnd l s)
    have hb2 := latK_bd hP (ord l).length
    rw [latK_end (Nat.le_refl _)] at hb2
    have hb3 := hb2 (fnd l s)
    have hol := hP.all
    have hl := hP.len
    have hF1 : ((fnd l s : Nat) : Int) < l.length := by omega
    have hF2 : ¬ l.length ≤ fnd l s := by omega
    generalize slk l (fnd l s) = V at *
    generalize fnd l s = F at *
    change ∀ W (h : Below w.heap.size w W), _ at c3
    have hge : gI (ear l) F = (ear l)[F]?.getD 0 := rfl
    have hgl : gI (latP l) F = (latP l)[F]?.getD 0 := rfl
    rw [hge, hgl] at hse
    rw [hge] at hb1
    rw [hgl] at hb3
    have hwr : wrap64 ((latP l)[F]?.getD 0 - (ear l)[F]?.getD 0) = (latP l)[F]?.getD 0 - (ear l)[F]?.getD 0 := IntWalk.wrap64_in _ ⟨by omega, by omega⟩
    have HV := Lib.hid hse
    have HF := Lib.hid hF
    have C1 := Lib.hid c1
    have C3 := Lib.hid c3
    have C4 := Lib.hid c4
    clear c1 c3 c4 hx h0 hv hn hc hse hF hb1 hb2 hb3 hge hgl hS hP hol
    go_enter Try.func36, Try.ntmps36
    go_wp2_with fail
    refine C1.out.mono ?_
    rintro e W1 ⟨rfl, hb⟩
    have HB1 := Lib.hid hb
    clear hb
    go_wp2_with fail
    refine wp_region_mix (by kernel_rfl) (by kernel_rfl) ?_
    refine wpC_take (f := 9) (by kernel_rfl) (by kernel_rfl) ⟨⟨_, (Below.refl _ _).drew⟩, rfl⟩ [0, 2, 5, 7] _ _ (by kernel_rfl) ?_
    simp only [List.map_cons, List.map_nil, List.getElem?_toArray, List.getElem?_cons_succ, List.getElem?_cons_zero, Option.getD_some]
    repeat (go_big_quiet_step (fail))
    refine wpQuiet_nil ?_
    have hB : Below W1.heap.size W1 W1.drew := (Below.refl _ _).drew
    refine wpC_all (rs := [1]) (by kernel_rfl) (by decide) ?_
    intro i hi
    simp only [List.mem_cons, List.not_mem_nil, or_false] at hi
    subst hi
    refine ⟨_, rfl, ?_⟩
    go_simp
    refine (C4.out _ (HB1.out.trans (hB.mono HB1.out.size))).mono ?_
    rintro e WW0 ⟨⟨v9, rfl, ho9⟩, hb9⟩
    obtain ⟨A1, k1, rfl, _, _, hL, hg9⟩ := own_ints ho9
    obtain ⟨b1, off1, e1, _, d1⟩ := hL.at_ F HF.out
    subst e1
    clear d1
    replace hB := below_step hB hb9
    clear hb9 ho9 hg9
    refine ⟨⟨⟨_, hB⟩, rfl⟩, ?_⟩
    go_simp
    refine wpC_take (f := 7) (by kernel_rfl) (by kernel_rfl) ⟨⟨_, hB⟩, rfl⟩ [3] _ _ (by kernel_rfl) ?_
    simp only [List.map_cons, List.map_nil, List.getElem?_toArray, List.getElem?_cons_succ, List.getElem?_cons_zero, Option.getD_some]
    repeat (go_big_quiet_step (fail))
    refine wpQuiet_nil ?_
    refine wpC_all (rs := [4, 6]) (by kernel_rfl) (by decide) ?_
    intro i hi
    simp only [List.mem_cons, List.not_mem_nil, or_false] at hi
    rcases hi with rfl | rfl
    · obtain ⟨b9, off9, e9, _, d9⟩ := hL.at_ F HF.out
      injection e9 with e9
      injection e9 with q1 q2
      subst q1 q2
      refine ⟨_, rfl, ?_⟩
      go_simp
      obtain ⟨WW1, hWk⟩ : ∃ q, q = WW0 := ⟨_, rfl⟩
      rw [← hWk] at hB hL ⊢
      clear d9 hWk
      refine ⟨⟨⟨_, hB⟩, rfl⟩, ?_⟩
      refine wpC_all (rs := [6]) (by kernel_rfl) (by decide) ?_
      intro i hi
      simp only [List.mem_cons, List.not_mem_nil, or_false] at hi
      subst hi
      refine ⟨_, rfl, ?_⟩
      go_simp
      refine (C3.out _ (HB1.out.trans (hB.mono HB1.out.size))).mono ?_
      rintro e WW2 ⟨⟨v9, rfl, ho9⟩, hb9⟩
      obtain ⟨A2, k2, rfl, _, _, hE, hg9⟩ := own_ints ho9
      obtain ⟨b6, off6, e6, _, d6⟩ := hE.at_ F HF.out
      subst e6
      clear d6
      replace hB := below_step hB hb9
      replace hL := (hL.below hb9).more hb9.size
      clear hb9 ho9 hg9
      refine ⟨⟨⟨_, hB⟩, rfl⟩, ?_⟩
      go_simp
      refine wpC_take (f := 4) (by kernel_rfl) (by kernel_rfl) ⟨⟨_, hB⟩, rfl⟩ [8] _ _ (by kernel_rfl) ?_
      simp only [List.map_cons, List.map_nil, List.getElem?_toArray, List.getElem?_cons_succ, List.getElem?_cons_zero, Option.getD_some]
      repeat (go_big_quiet_step (fail))
      refine wpQuiet_nil ?_
      refine wpC_all (rs := [9]) (by kernel_rfl) (by decide) ?_
      intro i hi
      simp only [List.mem_cons, List.not_mem_nil, or_false] at hi
      subst hi
      obtain ⟨b9, off9, e9, _, d9⟩ := hE.at_ F HF.out
      injection e9 with e9
      injection e9 with q1 q2
      subst q1 q2
      refine ⟨_, rfl, ?_⟩
      go_simp
      obtain ⟨WW3, hWk⟩ : ∃ q, q = WW2 := ⟨_, rfl⟩
      rw [← hWk] at hB hL hE ⊢
      clear d9 hWk
      refine ⟨⟨⟨_, hB⟩, rfl⟩, ?_⟩
      refine wpC_take (f := 0) (by kernel_rfl) (by kernel_rfl) ⟨⟨_, hB⟩, rfl⟩ [10, 11, 12] _ _ (by kernel_rfl) ?_
      simp only [List.map_cons, List.map_nil, List.getElem?_toArray, List.getElem?_cons_succ, List.getElem?_cons_zero, Option.getD_some]
      repeat (go_big_quiet_step (fail))
      refine wpQuiet_nil ?_
      refine wpC_done (by kernel_rfl) ?_
      have HFIN := Lib.hid (HB1.out.trans (hB.mono HB1.out.size))
      clear hB hE hL
      go_wp2
      go_ret2
      first | exact ⟨ret1 (by rw [HV.out]; rfl), HFIN.out⟩ | exact ⟨ret1 (by rw [← HV.out]), HFIN.out⟩
    · refine ⟨_, rfl, ?_⟩
      go_simp
      refine (C3.out _ (HB1.out.trans (hB.mono HB1.out.size))).mono ?_
      rintro e WW1 ⟨⟨v9, rfl, ho9⟩, hb9⟩
      obtain ⟨A2, k2, rfl, _, _, hE, hg9⟩ := own_ints ho9
      obtain ⟨b6, off6, e6, _, d6⟩ := hE.at_ F HF.out
      subst e6
      clear d6
      replace hB := below_step hB hb9
      replace hL := (hL.below hb9).more hb9.size
      clear hb9 ho9 hg9
      refine ⟨⟨⟨_, hB⟩, rfl⟩, ?_⟩
      go_simp
      refine wpC_take (f := 5) (by kernel_rfl) (by kernel_rfl) ⟨⟨_, hB⟩, rfl⟩ [8] _ _ (by kernel_rfl) ?_
      simp only [List.map_cons, List.map_nil, List.getElem?_toArray, List.getElem?_cons_succ, List.getElem?_cons_zero, Option.getD_some]
      repeat (go_big_quiet_step (fail))
      refine wpQuiet_nil ?_
      refine wpC_all (rs := [4, 9]) (by kernel_rfl) (by decide) ?_
      intro i hi
      simp only [List.mem_cons, List.not_mem_nil, or_false] at hi
      rcases hi with rfl | rfl
      · obtain ⟨b9, off9, e9, _, d9⟩ := hL.at_ F HF.out
        injection e9 with e9
        injection e9 with q1 q2
        subst q1 q2
        refine ⟨_, rfl, ?_⟩
        go_simp
        obtain ⟨WW2, hWk⟩ : ∃ q, q = WW1 := ⟨_, rfl⟩
        rw [← hWk] at hB hL hE ⊢
        clear d9 hWk
        refine ⟨⟨⟨_, hB⟩, rfl⟩, ?_⟩
        refine wpC_all (rs := [9]) (by kernel_rfl) (by decide) ?_
        intro i hi
        simp only [List.mem_cons, List.not_mem_nil, or_false] at hi
        subst hi
        obtain ⟨b9, off9, e9, _, d9⟩ := hE.at_ F HF.out
        injection e9 with e9
        injection e9 with q1 q2
        subst q1 q2
        refine ⟨_, rfl, ?_⟩
        go_simp
        obtain ⟨WW3, hWk⟩ : ∃ q, q = WW2 := ⟨_, rfl⟩
        rw [← hWk] at hB hL hE ⊢
        clear d9 hWk
        refine ⟨⟨⟨_, hB⟩, rfl⟩, ?_⟩
        refine wpC_take (f := 0) (by kernel_rfl) (by kernel_rfl) ⟨⟨_, hB⟩, rfl⟩ [10, 11, 12] _ _ (by kernel_rfl) ?_
        simp only [List.map_cons, List.map_nil, List.getElem?_toArray, List.getElem?_cons_succ, List.getElem?_cons_zero, Option.getD_some]
        repeat (go_big_quiet_step (fail))
        refine wpQuiet_nil ?_
        refine wpC_done (by kernel_rfl) ?_
        have HFIN := Lib.hid (HB1.out.trans (hB.mono HB1.out.size))
        clear hB hE hL
        go_wp2
        go_ret2
        first | exact ⟨ret1 (by rw [HV.out]; rfl), HFIN.out⟩ | exact ⟨ret1 (by rw [← HV.out]), HFIN.out⟩
      · obtain ⟨b9, off9, e9, _, d9⟩ := hE.at_ F HF.out
        injection e9 with e9
        injection e9 with q1 q2
        subst q1 q2
        refine ⟨_, rfl, ?_⟩
        go_simp
        obtain ⟨WW2, hWk⟩ : ∃ q, q = WW1 := ⟨_, rfl⟩
        rw [← hWk] at hB hL hE ⊢
        clear d9 hWk
        refine ⟨⟨⟨_, hB⟩, rfl⟩, ?_⟩
        refine wpC_all (rs := [4]) (by kernel_rfl) (by decide) ?_
        intro i hi
        simp only [List.mem_cons, List.not_mem_nil, or_false] at hi
        subst hi
        obtain ⟨b9, off9, e9, _, d9⟩ := hL.at_ F HF.out
        injection e9 with e9
        injection e9 with q1 q2
        subst q1 q2
        refine ⟨_, rfl, ?_⟩
        go_simp
        obtain ⟨WW3, hWk⟩ : ∃ q, q = WW2 := ⟨_, rfl⟩
        rw [← hWk] at hB hL hE ⊢
        clear d9 hWk
        refine ⟨⟨⟨_, hB⟩, rfl⟩, ?_⟩
        refine wpC_take (f := 0) (by kernel_rfl) (by kernel_rfl) ⟨⟨_, hB⟩, rfl⟩ [10, 11, 12] _ _ (by kernel_rfl) ?_
        simp only [List.map_cons, List.map_nil, List.getElem?_toArray, List.getElem?_cons_succ, List.getElem?_cons_zero, Option.getD_some]
        repeat (go_big_quiet_step (fail))
        refine wpQuiet_nil ?_
        refine wpC_done (by kernel_rfl) ?_
        have HFIN := Lib.hid (HB1.out.trans (hB.mono HB1.out.size))
        clear hB hE hL
        go_wp2
        go_ret2
        first | exact ⟨ret1 (by rw [HV.out]; rfl), HFIN.out⟩ | exact ⟨ret1 (by rw [← HV.out]), HFIN.out⟩
  · have hv : slkV l s = 0 := if_neg h0
    rw [hv]
    have hne : (nmE l s == 0) = false := by simpa using h0
    generalize nmE l s = E at *
    have C1 := Lib.hid c1
    clear c1 hx h0 hv
    go_enter Try.func36, Try.ntmps36
    go_wp2_with fail
    refine C1.out.mono ?_
    rintro e w1 ⟨rfl, hb⟩
    have hB_w1 : Below w.heap.size w w1 := (by repeat (first | exact Below.refl _ _ | assumption | refine Below.setCell ?_ (by first | (simp; done) | (simp; omega) | omega) _ | refine Below.drew ?_ | refine below_drewN ?_ _ | refine Below.alloc ?_ (by first | (simp; done) | (simp; omega) | omega) _ | refine below_alloc ?_ _ | refine below_step ?_ (by assumption))); have hz_w1 := hB_w1.size; clear hb
    go_wp2
    go_ret2
    exact ⟨rfl, (by repeat (first | exact Below.refl _ _ | assumption | refine Below.setCell ?_ (by first | (simp; done) | (simp; omega) | omega) _ | refine Below.drew ?_ | refine below_drewN ?_ _ | refine Below.alloc ?_ (by first | (simp; done) | (simp; omega) | omega) _ | refine below_alloc ?_ _ | refine below_step ?_ (by assumption)))⟩
end Go.Proofs.Ytgijekhlbkfanaa

namespace Go.Proofs.Ytgijekhlbkfanaa
open Go.RowKit
attribute [local go_sem] Later.cell Same.cell

theorem jinfo_bool : (Try.prog.info? 4).map (fun i => (i.zero, i.size, i.bytes)) = some (some (.bool false), 1, 1) := by kernel_rfl
/-- The cells of a row of Bools. -/
def bcells (R : Nat → Bool) (n : Nat) : List Value := (List.range n).map fun j => .bool (R j)
theorem bcells_at {R : Nat → Bool} {n k : Nat} (h : k < n) : (bcells R n)[k]? = some (.bool (R k)) := by
  unfold bcells
  rw [List.getElem?_map, List.getElem?_range h]
  rfl
theorem bmade (n : Nat) : (madeCells (Value.bool false).cells (n * 1)).toList = bcells (fun _ => false) n := by
  apply List.ext_getElem?
  intro i
  by_cases hi : i < n
  · have e : (Value.bool false).cells = #[.bool false] := rfl
    rw [e, bcells_at hi]
    simp [madeCells, hi, Nat.mod_one]
  · unfold bcells
    simp [madeCells, hi]
theorem bcells_set {R : Nat → Bool} {n i : Nat} (hi : i < n) : (bcells R n).set i (.bool true) = bcells (fun q => R q || decide (q = i)) n := by
  apply List.ext_getElem?
  intro k
  rw [List.getElem?_set]
  by_cases hk : k < n
  · rw [bcells_at hk, bcells_at hk]
    by_cases hik : i = k
    · subst hik
      simp [bcells, hi]
    · rw [if_neg hik, decide_eq_false (fun h => hik h.symm), Bool.or_false]
  · have h1 : (bcells R n)[k]? = none := List.getElem?_eq_none (by simp [bcells]; omega)
    have h2 : (bcells (fun q => R q || decide (q = i)) n)[k]? = none := List.getElem?_eq_none (by simp [bcells]; omega)
    rw [h1, h2]
    rw [if_neg (by omega)]
/-- A row of the call's own, any cells. -/
theorem vown_at {w : World} {base g n cap : Nat} {e : TypeId} {xs : List Value} (h : w.ownsRow base e 1 (.slice (some ⟨g, 0, none⟩) n cap) n xs) : g < w.heap.size ∧ base ≤ g ∧ (∀ k, k < n → w.cell? ⟨g, k, none⟩ = xs[k]?) ∧ ∀ k, w.frozen? ⟨g, k, none⟩ = false := by
  have hfr := fun k => h.frozenAt k
  refine ⟨?_, ?_, fun k hk => h.cellAt k (by omega), hfr⟩
  · rcases h.2 with ⟨h', _⟩ | ⟨g', cap', cur, h', hb, hg, _⟩
    · simp at h'
    · simp only [Value.slice.injEq, Option.some.injEq, Addr.mk.injEq, and_true, true_and] at h'
      obtain ⟨rfl, rfl⟩ := h'
      exact (Array.getElem?_eq_some_iff.1 hg).1
  · rcases h.2 with ⟨h', _⟩ | ⟨g', cap', cur, h', hb, hg, _⟩
    · simp at h'
    · simp only [Value.slice.injEq, Option.some.injEq, Addr.mk.injEq, and_true, true_and] at h'
      obtain ⟨rfl, rfl⟩ := h'
      exact hb
/-- One After of one task. -/
def wtJ (l : List Tk) (F : Nat) (R : Nat → Bool) (i j : Nat) : Nat → Bool := fun q => R q || (decide (q = i) && ((afs l i).take j).any fun a => decide (a = F) || R a)
theorem wtJ_zero (l : List Tk) (F : Nat) (R : Nat → Bool) (i : Nat) : wtJ l F R i 0 = R := by
  funext q
  unfold wtJ
  simp
theorem wtJ_end (l : List Tk) (F : Nat) (R : Nat → Bool) (i : Nat) : wtJ l F R i (afs l i).length = wtS l F R i := by
  unfold wtJ wtS
  rw [List.take_length]
theorem wtJ_next {l : List Tk} (h : okP l) {F i j : Nat} {R : Nat → Bool} (hi : i < l.length) (hj : j < (afs l i).length) :
    wtJ l F R i (j + 1) = (if decide ((afs l i)[j] = F) || wtJ l F R i j (afs l i)[j] then (fun q => wtJ l F R i j q || decide (q = i)) else wtJ l F R i j) ∧ wtJ l F R i j (afs l i)[j] = R (afs l i)[j] := by
  have hne : (afs l i)[j] ≠ i := fun e => afs_self h hi (by have := List.getElem_mem hj; rw [e] at this; exact this)
  have hr : wtJ l F R i j (afs l i)[j] = R (afs l i)[j] := by
    unfold wtJ
    rw [decide_eq_false hne, Bool.false_and, Bool.or_false]
  refine ⟨?_, hr⟩
  rw [hr]
  have ht : ((afs l i).take (j + 1)).any (fun a => decide (a = F) || R a) = (((afs l i).take j).any (fun a => decide (a = F) || R a) || (decide ((afs l i)[j] = F) || R (afs l i)[j])) := by
    rw [List.take_succ_eq_append_getElem hj, List.any_append]
    simp
  cases hc : decide ((afs l i)[j] = F) || R (afs l i)[j]
  · rw [if_neg (by decide)]
    funext q
    unfold wtJ
    rw [ht, hc, Bool.or_false]
  · rw [if_pos rfl]
    funext q
    unfold wtJ
    rw [ht, hc, Bool.or_true, Bool.and_true]
    cases R q <;> cases decide (q = i) <;> simp
structure RbR (l : List Tk) (w : World) (g : Nat) (A1 : Option Addr) (R : Nat → Bool) (W : World) : Prop where
  own : W.ownsRow w.heap.size 4 1 (.slice (some ⟨g, 0, none⟩) l.length l.length) l.length (bcells R l.length)
  ord : Ints W W.heap.size A1 l.length (iN (ord l))
  bel : Below w.heap.size w W
theorem RbR.store {l : List Tk} {w : World} {g : Nat} {A1 : Option Addr} {R : Nat → Bool} {W : World} (h : RbR l w g A1 R W) (hn : NB A1 g) (i : Nat) (hi : i < l.length) : RbR l w g A1 (fun q => R q || decide (q = i)) (W.setCell ⟨g, i, none⟩ (.bool true)) :=
  ⟨by have := (h.own.stored i (.bool true)).1; rw [bcells_set hi] at this; exact this, h.ord.store hn i _, h.bel.setCell (p := ⟨g, i, none⟩) (vown_at h.own).2.1 _⟩
theorem RbR.later {l : List Tk} {w : World} {g : Nat} {A1 : Option Addr} {R : Nat → Bool} {W W' : World} (h : RbR l w g A1 R W) (hb : Below W.heap.size W W') : RbR l w g A1 R W' :=
  ⟨jown_later h.own hb, h.ord.go hb, h.bel.trans (hb.mono h.bel.size)⟩
set_option maxRecDepth 20000 in
set_option maxHeartbeats 16000000 in
theorem rWaits_any (A : Option Addr) (len cap : Nat) (l : List Tk) (s : ByteArray) (w : World) (hS : Sml l) (hs : s.size ≤ 9223372036854775807) (hx : Plan w w.heap.size A len l) :
    Calls Try.prog 38 #[.slice A len cap, .string s] w fun e w' => (∃ v, e = .returned (.tuple #[v, .int .i64 (nmE l s)]) ∧ w'.ownsRow w.heap.size 3 1 v (wtX l s).length (icells (iN (wtX l s)))) ∧ Below w.heap.size w w' := by
  obtain rfl : l.length = len := hx.1
  have c1 := rnamed_any A l.length cap l s w hS hs hx
  by_cases h0 : nmE l s = 0
  · have hv : wtX l s = wtL l (fnd l s) := if_pos h0
    have hn : nmV l s = (fnd l s : Int) := by unfold nmV; rw [if_pos h0]
    have hc : checkE l = 0 ∧ fnd l s < l.length := by
      rcases nm_cases l s with ⟨a, b, -⟩ | ⟨-, -, a, -⟩ | ⟨a, b, -⟩
      · exact ⟨a, b⟩
      · rw [h0] at a; cases a
      · rw [h0] at b; exact absurd b.symm a
    have hP := check_spec hc.1
    have c2 := fun i W (h : Below w.heap.size w W) (hi : i < l.length) => afters_any A l.length cap l i W (by have := hP.len; omega) hi (by have := hP.few i hi; omega) (hx.go h)
    have haz : ∀ i, i < l.length → afZ l i = iN (afs l i) := fun i hi => afZ_afs (hP.known i hi)
    have c5 := fun W (h : Below w.heap.size w W) => rorder_any A l.length cap l W (by have := hP.len; omega) hP.names (fun i hi => by have := hP.few i hi; omega) (hx.go h)
    obtain ⟨j0, hj, hy0, hy1, hy2⟩ := info_parts jinfo_int
    have hI0 := Lib.hid hj
    have hI1 := Lib.hid hy0
    have hI2 := Lib.hid hy1
    have hI3 := Lib.hid hy2
    obtain ⟨k0, hkj, ky0, ky1, ky2⟩ := info_parts jinfo_bool
    have hJ0 := Lib.hid hkj
    have hJ1 := Lib.hid ky0
    have hJ2 := Lib.hid ky1
    have hJ3 := Lib.hid ky2
    have hL := hP.len
    have hFl := hc.2
    rw [hn, h0] at c1
    rw [h0, hv]
    generalize fnd l s = F at *
    have C1 := Lib.hid c1
    have C2 := Lib.hid c2
    have C5 := Lib.hid c5
    have HAZ := Lib.hid haz
    have HX := Lib.hid hx
    have HP := Lib.hid hP
    clear c1 c2 c5 hx hS hP hj hy0 hy1 hy2 hkj ky0 ky1 ky2 haz h0 hv hn hc hs
    go_enter Try.func38, Try.ntmps38
    go_wp2_with fail
    refine C1.out.mono ?_
    rintro e w1 ⟨rfl, hb⟩
    have HB1 := Lib.hid hb
    have hs1 := hb.size
    clear hb
    go_wp2_with (at_make; refine wpList_make_full _ rfl _ _ 75 rfl w1.heap.size 4 k0 (.bool false) 1 Try.underlying75 hJ0.out hJ1.out hJ2.out _ _ _ _ l.length rfl rfl (by omega) (by omega) (by rw [hJ3.out]; omega) (by unfold maxLen; omega) (Nat.le_refl _) ?_; intro w2 hown hgrow; go_frame)
    rw [bmade] at hown
    have hB2 : Below w1.heap.size w1 w2 := grown_below hgrow (Nat.le_refl _) (fun k hk => by cases hk)
    have HOW := Lib.hid hown
    have hg0 : w1.heap.size < w2.heap.size := (vown_at hown).1
    have HB2 := Lib.hid hB2
    clear hown hgrow hB2
    refine (C5.out _ (HB1.out.trans (HB2.out.mono hs1))).mono ?_
    rintro e w3 ⟨⟨v, rfl, ho⟩, hb⟩
    obtain ⟨A1, cap1, rfl, hq1, hq2, hI, -⟩ := own_ints ho
    have hol : (ord l).length = l.length := HP.out.all
    rw [hol] at ho hI hq1 ⊢
    have HNB := Lib.hid (NB.of_own ho hg0)
    have HE : Hid (RbR l w1 w1.heap.size A1 (wtK l F 0) w3) := Lib.hid ⟨jown_later HOW.out hb, hI, HB2.out.trans (hb.mono HB2.out.size)⟩
    clear ho hb HOW HB2 hI
    go_wp2
    go_loopw [10] (fun i W => ∃ k : Nat, k ≤ l.length ∧ i = .int .i64 k ∧ Hid (RbR l w1 w1.heap.size A1 (wtK l F k) W)) (fun i _ => l.length - (intOf i).toNat)
    case atStart => exact ⟨0, Nat.zero_le _, rfl, HE⟩
    case round =>
      obtain ⟨k, hk, rfl, HE⟩ := hrel
      have hbw := HE.out.bel
      by_cases hlt : k < l.length
      · have hko : k < (ord l).length := by omega
        have hil := ord_lt (List.getElem_mem hko)
        obtain ⟨b5, off5, rfl, hb5, hc5⟩ := HE.out.ord.at_ k hlt
        change wr.cell? _ = some (.int .i64 (gI (iN (ord l)) k)) at hc5
        rw [iN_at hko] at hc5
        have hfew := HP.out.few _ hil
        have hKn := wtK_next (i := F) hko
        have hEz := wtJ_zero l F (wtK l F k) (ord l)[k]
        have hEe := wtJ_end l F (wtK l F k) (ord l)[k]
        have hEn := fun j (h : j < (afs l (ord l)[k]).length) => wtJ_next HP.out (F := F) (R := wtK l F k) hil h
        have c3 := C2.out _ wr (HB1.out.trans (hbw.mono hs1)) hil
        rw [HAZ.out _ hil, iN_len] at c3
        have hal := afs_len l (ord l)[k]
        generalize hio : (ord l)[k] = i at *
        have HIO := Lib.hid hio
        have HEN := Lib.hid hEn
        have HKX := Lib.hid (hKn.trans hEe.symm)
        have C3 := Lib.hid c3
        have HE0 : Hid (RbR l w1 w1.heap.size (some ⟨b5, off5, none⟩) (wtJ l F (wtK l F k) i 0) wr) := Lib.hid (by rw [hEz]; exact HE.out)
        have hbs := hbw.size
        have hk1 : (k : Int) < l.length := by omega
        have hk2 : ¬ l.length ≤ k := by omega
        have hm10 : (afs l i).length ≤ 10 := by omega
        have hgs := (vown_at HE.out.own).1
        clear hEn hKn hEz hEe HE hio c3 hal hfew
        go_wp2_with fail
        refine C3.out.mono ?_
        rintro e w4 ⟨⟨v4, rfl, ho4⟩, hb4⟩
        obtain ⟨A4, cap4, rfl, hq4, hq5, hI4, -⟩ := own_ints ho4
        have HNB4 := Lib.hid (NB.of_own ho4 hgs)
        have HE1 := Lib.hid (HE0.out.later hb4)
        have HI4 := Lib.hid hI4
        clear ho4 hI4 HE0 hc5 hb5 C3 hb4
        go_wp2
        go_loopw [12] (fun i' W => ∃ j : Nat, j ≤ (afs l i).length ∧ i' = .int .i64 j ∧ Hid (RbR l w1 w1.heap.size (some ⟨b5, off5, none⟩) (wtJ l F (wtK l F k) i j) W) ∧ Hid (Ints W W.heap.size A4 (afs l i).length (iN (afs l i)))) (fun i' _ => (afs l i).length - (intOf i').toNat)
        case atStart => exact ⟨0, Nat.zero_le _, rfl, HE1, HI4⟩
        case round =>
          obtain ⟨j, hj, rfl, HE, HA⟩ := hrel
          by_cases hlj : j < (afs l i).length
          · have hbw3 := HE.out.bel
            have hFl2 := afs_lt HP.out hil (List.getElem_mem hlj)
            have hnx := (HEN.out j hlj).1
            obtain ⟨b2, off2, rfl, hb2, hc6⟩ := HA.out.at_ j hlj
            change wr.cell? _ = some (.int .i64 (gI (iN (afs l i)) j)) at hc6
            rw [iN_at hlj] at hc6
            obtain ⟨b6, off6, he6, hb6, hc7⟩ := HE.out.ord.at_ k hlt
            injection he6 with he6
            injection he6 with he61 he62
            subst he61 he62
            change wr.cell? _ = some (.int .i64 (gI (iN (ord l)) k)) at hc7
            rw [iN_at hko, HIO.out] at hc7
            generalize (afs l i)[j] = G at *
            obtain ⟨hgs3, hgb, hgc, hgf⟩ := vown_at HE.out.own
            have hcG := (hgc G hFl2).trans (bcells_at hFl2)
            have hci := (hgc i hil).trans (bcells_at hil)
            have hfi := hgf i
            have HST := Lib.hid (HE.out.store HNB.out i hil)
            have HSA := Lib.hid (HA.out.store HNB4.out i (.bool true))
            generalize hQn : wtJ l F (wtK l F k) i (j + 1) = Qn at *
            generalize hQ : wtJ l F (wtK l F k) i j = Q at *
            have HQN := Lib.hid hQn
            have hG1 : (G : Int) < l.length := by omega
            have hG2 : ¬ l.length ≤ G := by omega
            have hi1 : (i : Int) < l.length := by omega
            have hi2 : ¬ l.length ≤ i := by omega
            have hj1 : (j : Int) < (afs l i).length := by omega
            have hj2 : ¬ (afs l i).length ≤ j := by omega
            have HE' := Lib.hid HE.out
            have HAA := Lib.hid HA.out
            by_cases hGF : G = F
            · have hgf2 : ((G : Int) == (F : Int)) = true := by rw [hGF]; simp
              rw [decide_eq_true hGF, Bool.true_or, if_pos rfl] at hnx
              have HNX := Lib.hid hnx
              have HGF := Lib.hid hGF
              clear hnx hgc hgf hQn hQ HE HA hGF
              go_wp2
              go_roundw
              case rel => exact ⟨j + 1, by omega, by go_num, by rw [HQN.out, HNX.out]; exact HST, HSA⟩
              case measure => simp [intOf]; omega
            · have hgf2 : ((G : Int) == (F : Int)) = false := by rw [beq_eq_false_iff_ne]; omega
              rw [decide_eq_false hGF, Bool.false_or] at hnx
              have HGF := Lib.hid hGF
              cases hQG : Q G
              · rw [hQG] at hnx hcG
                rw [if_neg (by decide)] at hnx
                have HNX := Lib.hid hnx
                clear hnx hgc hgf hQn hQ HE HA hGF hQG
                go_wp2
                go_roundw
                case rel => exact ⟨j + 1, by omega, by go_num, by rw [HQN.out, HNX.out]; exact HE', HAA⟩
                case measure => simp [intOf]; omega
              · rw [hQG] at hnx hcG
                rw [if_pos rfl] at hnx
                have HNX := Lib.hid hnx
                clear hnx hgc hgf hQn hQ HE HA hGF hQG
                go_wp2
                go_roundw
                case rel => exact ⟨j + 1, by omega, by go_num, by rw [HQN.out, HNX.out]; exact HST, HSA⟩
                case measure => simp [intOf]; omega
          · have hjn : j = (afs l i).length := by omega
            have hj1 : ¬ (j : Int) < (afs l i).length := by omega
            have HF : Hid (RbR l w1 w1.heap.size (some ⟨b5, off5, none⟩) (wtK l F (k + 1)) wr) := Lib.hid (by rw [HKX.out, ← hjn]; exact HE.out)
            clear HE HA
            go_wp2
            go_roundw
            case rel => exact ⟨k + 1, by omega, by go_num, HF⟩
            case measure => simp [intOf]; omega
      · have hkl : k = l.length := by omega
        subst hkl
        have hk1 : ¬ (l.length : Int) < l.length := by omega
        have HF : Hid (RbR l w1 w1.heap.size A1 (wtR l F) wr) := Lib.hid (by have := HE.out; rw [← hol, wtK_all] at this; exact this)
        obtain ⟨w6, hw6⟩ : ∃ w6, w6 = wr := ⟨_, rfl⟩
        subst hw6
        have hbw6 := HF.out.bel
        have hs6 := hbw6.size
        clear HE
        go_wp2
        go_loopw [13, 14] (fun v i' W => ∃ k : Nat, k ≤ l.length ∧ i' = .int .i64 (k : Int) ∧ Hid (W.ownsRow w6.heap.size 3 1 v (wtT l F k).length (icells (iN (wtT l F k)))) ∧ Below w6.heap.size w6 W) (fun _ i' _ => l.length - (intOf i').toNat)
        case atStart => exact ⟨0, Nat.zero_le _, rfl, Lib.hid (World.ownsRow_nil _ _ _ _), Below.refl _ _⟩
        case round =>
          obtain ⟨k, hk, rfl, HO, hB⟩ := hrel
          have hbs2 := hB.size
          obtain ⟨A1', cap1', rfl, hq1', hq2', -, -⟩ := own_ints HO.out
          have hwl := wtT_len (l := l) (i := F) (k := k)
          by_cases hlt : k < l.length
          · have hk1 : (k : Int) < l.length := by omega
            have hk2 : ¬ l.length ≤ k := by omega
            obtain ⟨hgs3, hgb, hgc, -⟩ := vown_at (HF.out.later hB).own
            have hck := (hgc k hlt).trans (bcells_at hlt)
            have hnx := wtT_next (l := l) (i := F) (k := k)
            cases hR : wtR l F k
            · rw [hR] at hnx hck
              have HNX := Lib.hid hnx
              clear hR hnx hgc
              go_wp2
              go_roundw
              case rel => exact ⟨k + 1, by omega, by go_num, Lib.hid (by rw [HNX.out]; exact HO.out), hB⟩
              case measure => simp [intOf]; omega
            · rw [hR] at hnx hck
              have HNX := Lib.hid hnx
              have HB := Lib.hid hB
              clear hR hnx hgc hB
              go_wp2_with (at_builtin; go_loud (refine wpList_append_own _ rfl (.tmp 78) (.tmp 80) 32 rfl w6.heap.size 3 j0 (.int .i64 0) 1 8 Try.underlying32 hI0.out hI1.out hI2.out hI3.out rfl (by decide) _ _ _ rfl (HO.out.alloc _) ⟨wr.heap.size, 0, none⟩ 1 1 [.int .i64 (k : Int)] rfl rfl (jnews1 _ _ _) (jone1 _) (by unfold maxLen; omega) (by omega) (by simp; omega) ?_))
              intro v8 w8 hown8 hgrow8 _
              have hb9 := (HB.out.alloc hbs2 (.cells #[.int .i64 (k : Int)] 3)).trans (grown_below hgrow8 (by simp; omega) (fun q hq => ((HO.out.alloc (.cells #[.int .i64 (k : Int)] 3)).lt q hq).1))
              have HR2 : Hid (w8.ownsRow w6.heap.size 3 1 v8 (wtT l F (k + 1)).length (icells (iN (wtT l F (k + 1))))) := Lib.hid (by
                rw [HNX.out]
                simp only [if_true, List.length_append, List.length_cons, List.length_nil, iN_app, icells_app]
                exact hown8)
              go_wp2
              go_roundw
              case rel => exact ⟨k + 1, by omega, by go_num, HR2, hb9⟩
              case measure => simp [intOf]; omega
          · have hkl : k = l.length := by omega
            subst hkl
            have hk1 : ¬ (l.length : Int) < l.length := by omega
            have HR : Hid (wr.ownsRow w.heap.size 3 1 (.slice A1' (wtT l F l.length).length cap1') (wtL l F).length (icells (iN (wtL l F)))) := Lib.hid (jown_mono HO.out (Nat.le_trans hs1 hs6))
            have HBF := Lib.hid (HB1.out.trans ((hbw6.mono hs1).trans (hB.mono (Nat.le_trans hs1 hs6))))
            clear hB HO hwl
            go_wp2
            go_ret2
            exact ⟨⟨_, rfl, HR.out⟩, HBF.out⟩
  · have hne : (nmE l s == 0) = false := by simpa using h0
    have hE : wtX l s = [] := if_neg h0
    rw [hE]
    generalize nmE l s = E at *
    have C1 := Lib.hid c1
    clear c1 hx h0
    go_enter Try.func38, Try.ntmps38
    go_wp2_with fail
    refine C1.out.mono ?_
    rintro e w1 ⟨rfl, hb⟩
    have hb2 := Lib.hid hb
    clear hb
    go_wp2
    go_ret2
    exact ⟨⟨_, rfl, World.ownsRow_nil _ _ _ _⟩, hb2.out⟩
end Go.Proofs.Ytgijekhlbkfanaa

namespace Go.Proofs.Ytgijekhlbkfanaa
open Go.RowKit Go.Shelf
attribute [local go_sem] Later.cell Same.cell

theorem many_ok {l : List Tk} {c : Int} (h : crewE l c = 0) : ∀ i, i < l.length → mnA l i ≤ c := fun i hi => by
  unfold crewE at h
  have hk := crewE_ok (l := l) (c := c) (by unfold crewE; exact h)
  rw [if_pos hk.1, if_pos (wi_iff.2 hk.2)] at h
  apply Classical.byContradiction
  intro hh
  rw [if_pos (many1_iff.2 ⟨i, hi, by omega⟩)] at h
  cases h
/-- The turn's first k tasks on a day. -/
def tkF (l : List Tk) (c : Int) (d : Nat) (s : Sc) (k : Nat) : Sc := ((trn l).take k).foldl (stR l c d) s
theorem tkF_next {l : List Tk} {c : Int} {d : Nat} {s : Sc} {k : Nat} (h : k < (trn l).length) : tkF l c d s (k + 1) = stR l c d (tkF l c d s k) (trn l)[k] := by
  unfold tkF
  rw [List.take_succ_eq_append_getElem h, List.foldl_append]; rfl
theorem tkF_end {l : List Tk} {c : Int} {d : Nat} {s : Sc} {k : Nat} (h : (trn l).length ≤ k) : tkF l c d s k = dayR l c (trn l) d s := by
  unfold tkF; rw [List.take_of_length_le h]; rfl
theorem tkF_day {l : List Tk} {c : Int} {d : Nat} (hP : okP l) (hm : 0 ≤ c) (h : Run l c d) (k : Nat) : Day l c d (schK l c (trn l) d) ((trn l).take k) (tkF l c d (schK l c (trn l) d) k) := by
  have hT := trn_is hP
  have := Day.fold (post := (trn l).take k) (pre := []) hP h.inv.len (by rw [List.nil_append]; exact List.Sublist.nodup (List.take_sublist k (trn l)) hT.nd) (fun i hi => (hT.mem i).1 (List.mem_of_mem_take hi)) (Day.begin hP h.inv h.inv2 hm)
  rw [List.nil_append] at this
  exact this
theorem tkF_bd {l : List Tk} {c : Int} {d : Nat} (hP : okP l) (hm : 0 ≤ c) (h : Run l c d) (k : Nat) : (tkF l c d (schK l c (trn l) d) k).2.length ≤ l.length ∧ ∀ a, 0 ≤ gI (tkF l c d (schK l c (trn l) d) k).1 a ∧ gI (tkF l c d (schK l c (trn l) d) k).1 a ≤ d := by
  have hD := tkF_day hP hm h k
  refine ⟨nodup_len hD.nd hD.lt, fun a => ?_⟩
  by_cases ha : a ∈ (tkF l c d (schK l c (trn l) d) k).2
  · by_cases hs : a ∈ (schK l c (trn l) d).2
    · rw [hD.keep a (.inr hs)]; have := h.inv.early a hs; omega
    · rw [(hD.new a ha hs).2.1]; omega
  · rw [hD.keep a (.inl ha), h.inv.zero a (fun hh => ha (hD.old a hh))]; omega
/-- Ready, with the first j Afters. -/
def rdJ (l : List Tk) (t : Sc) (d : Int) (i j : Nat) : Bool := !t.2.contains i && ((afs l i).take j).all fun a => t.2.contains a && decide (gI t.1 a + dyA l a ≤ d)
theorem rdJ_zero (l : List Tk) (t : Sc) (d : Int) (i : Nat) : rdJ l t d i 0 = !t.2.contains i := by unfold rdJ; simp
theorem rdJ_next {l : List Tk} {t : Sc} {d : Int} {i j : Nat} (h : j < (afs l i).length) : rdJ l t d i (j + 1) = (rdJ l t d i j && (t.2.contains (afs l i)[j] && decide (gI t.1 (afs l i)[j] + dyA l (afs l i)[j] ≤ d))) := by
  unfold rdJ
  rw [List.take_succ_eq_append_getElem h, List.all_append, Bool.and_assoc]
  simp
theorem rdJ_end (l : List Tk) (t : Sc) (d : Int) (i : Nat) : rdJ l t d i (afs l i).length = rdD l t.1 t.2 d i := by
  unfold rdJ rdD; rw [List.take_length]
theorem day_ms {d : Nat} {t : Int} (h : (d : Int) ≤ t) : (t + 1 - ((d : Int) + 1)).toNat < (t + 1 - (d : Int)).toNat := by omega
theorem rnS_bd {l : List Tk} (hP : okP l) {t : Sc} {d : Int} {i : Nat} (hi : i < l.length) {j : Nat} (hj : j ≤ l.length) : 0 ≤ mnA l i + sN (rnF l t.1 t.2 d) j ∧ mnA l i + sN (rnF l t.1 t.2 d) j ≤ 16 * (j + 1) := by
  have h0 := mnA_bd hP hi
  have key : ∀ j : Nat, j ≤ l.length → 0 ≤ sN (rnF l t.1 t.2 d) j ∧ sN (rnF l t.1 t.2 d) j ≤ 16 * j := by
    intro j
    induction j with
    | zero => intro _; exact ⟨Int.le_refl _, by show (0 : Int) ≤ _; omega⟩
    | succ j ih =>
      intro hj
      have h1 := ih (by omega)
      have h2 := mnA_bd hP (show j < l.length by omega)
      show 0 ≤ sN _ j + rnF l t.1 t.2 d j ∧ sN _ j + rnF l t.1 t.2 d j ≤ _
      have h3 : 0 ≤ rnF l t.1 t.2 d j ∧ rnF l t.1 t.2 d j ≤ 16 := by unfold rnF; split <;> omega
      omega
  have := key j hj
  omega
theorem stR_yes {l : List Tk} {c d : Int} {t : Sc} {i : Nat} (h : rdD l t.1 t.2 d i = true) (hm : mnA l i + runL l t.1 t.2 d ≤ c) : stR l c d t i = (t.1.set i d, t.2 ++ [i]) := by
  unfold stR; rw [h, decide_eq_true hm]; rfl
theorem stR_no {l : List Tk} {c d : Int} {t : Sc} {i : Nat} (h : ¬ (rdD l t.1 t.2 d i = true ∧ mnA l i + runL l t.1 t.2 d ≤ c)) : stR l c d t i = t := by
  unfold stR
  rw [if_neg]
  simpa using h
theorem dy_wrap {G Y t : Int} {d n : Nat} (hg : 0 ≤ G ∧ G ≤ d) (hy : 1 ≤ Y ∧ Y ≤ 1000) (h : (d : Int) ≤ t) (h2 : t ≤ 1000 * n) (h3 : n ≤ 20) : wrap64 (G + Y) = G + Y := IntWalk.wrap64_in _ ⟨by omega, by omega⟩
theorem mn_wrap {M Z : Int} {q n : Nat} (hm : 0 ≤ M ∧ M ≤ 16 * (q + 1)) (hz : 1 ≤ Z ∧ Z ≤ 16) (h3 : n ≤ 20) (hq : q < n) : wrap64 (M + Z) = M + Z := IntWalk.wrap64_in _ ⟨by omega, by omega⟩
theorem left_next {n i : Nat} (B : List Nat) (h : B.length ≤ n) (hn : n ≤ 20) : ((n : Int) - B.length - 1) = (n : Int) - (B ++ [i]).length := by
  rw [List.length_append]
  show ((n : Int) - B.length - 1) = (n : Int) - ((B.length + 1 : Nat) : Int)
  omega
structure LrR (l : List Tk) (w : World) (go gb : Nat) (A8 : Option Addr) (n8 cap8 : Nat) (s : Sc) (W : World) : Prop where
  out : W.ownsRow w.heap.size 3 1 (.slice (some ⟨go, 0, none⟩) l.length l.length) l.length (icells s.1)
  beg : W.ownsRow w.heap.size 4 1 (.slice (some ⟨gb, 0, none⟩) l.length l.length) l.length (bcells (fun j => s.2.contains j) l.length)
  trn : W.ownsRow w.heap.size 3 1 (.slice A8 n8 cap8) n8 (icells (iN (trn l)))
  bel : Below w.heap.size w W
  ne : go ≠ gb ∧ some go ≠ (Value.slice A8 n8 cap8).ownBlock ∧ some gb ≠ (Value.slice A8 n8 cap8).ownBlock
section
variable {l : List Tk} {w : World} {go gb : Nat} {A8 : Option Addr} {n8 cap8 : Nat} {s : Sc} {W W' : World}
theorem LrR.later (h : LrR l w go gb A8 n8 cap8 s W) (hb : Below W.heap.size W W') : LrR l w go gb A8 n8 cap8 s W' :=
  ⟨jown_later h.out hb, jown_later h.beg hb, jown_later h.trn hb, h.bel.trans (hb.mono h.bel.size), h.ne⟩
theorem gset (W : World) (g i : Nat) (v : Value) : W.grownBy (W.setCell ⟨g, i, none⟩ v) (some g) := ⟨rfl, rfl, rfl, by rw [World.size_setCell]; exact Nat.le_refl _, fun b _ hb => Below.heap_setCell W ⟨g, i, none⟩ v b (fun e => hb (by rw [e]))⟩
theorem LrR.mid (h : LrR l w go gb A8 n8 cap8 s W) {i : Nat} (hi : i < l.length) (v : Int) : (W.setCell ⟨go, i, none⟩ (.int .i64 v)).cell? ⟨gb, i, none⟩ = some (.bool (s.2.contains i)) ∧ (W.setCell ⟨go, i, none⟩ (.int .i64 v)).frozen? ⟨gb, i, none⟩ = false := by
  have h1 := vown_at (h.beg.kept (gset W go i (.int .i64 v)) (.inr (fun e => h.ne.1 (by injection e with e; exact e.symm))))
  exact ⟨(h1.2.2.1 i hi).trans (bcells_at hi), h1.2.2.2 i⟩
theorem LrR.store (h : LrR l w go gb A8 n8 cap8 s W) {i : Nat} (hi : i < l.length) (v : Int) : LrR l w go gb A8 n8 cap8 (s.1.set i v, s.2 ++ [i]) ((W.setCell ⟨go, i, none⟩ (.int .i64 v)).setCell ⟨gb, i, none⟩ (.bool true)) := by
  obtain ⟨n1, n2, n3⟩ := h.ne
  have g1 := gset W go i (.int .i64 v)
  have g2 := gset (W.setCell ⟨go, i, none⟩ (.int .i64 v)) gb i (.bool true)
  have hgo := (jown_at h.out).2.1
  have hgb := (vown_at h.beg).2.1
  refine ⟨((jown_store h.out i v).1).kept g2 (.inr (fun e => n1 (by injection e))), ?_, (h.trn.kept g1 (.inr (fun e => n2 e.symm))).kept g2 (.inr (fun e => n3 e.symm)), (h.bel.setCell (p := ⟨go, i, none⟩) hgo _).setCell (p := ⟨gb, i, none⟩) hgb _, n1, n2, n3⟩
  have := ((h.beg.kept g1 (.inr (fun e => n1 (by injection e with e; exact e.symm)))).stored i (.bool true)).1
  rw [bcells_set hi] at this
  have hf : (fun q => s.2.contains q || decide (q = i)) = fun q => (s.2 ++ [i]).contains q := by
    funext q
    by_cases e : q = i
    · subst e; simp
    · simp [e]
  rw [hf] at this
  exact this
end
set_option maxRecDepth 20000 in
set_option maxHeartbeats 16000000 in
theorem rlisted_ok (A : Option Addr) (len cap : Nat) (l : List Tk) (c : Int) (w : World) (hS : Sml l) (hE : crewE l c = 0) (hx : Plan w w.heap.size A len l) :
    Calls Try.prog 49 #[.slice A len cap, .int .i64 c] w fun e w' => (∃ v, e = .returned (.tuple #[v, .int .i64 0]) ∧ w'.ownsRow w.heap.size 3 1 v (LST l c).length (icells (LST l c))) ∧ Below w.heap.size w w' := by
  obtain rfl : l.length = len := hx.1
  have hk := crewE_ok hE
  have hP := check_spec hk.1
  have hcm := many_ok hE
  have hcb := hk.2
  have c1 := strong_any A l.length cap l c w hS hx
  rw [hE] at c1
  have c2 := fun W (h : Below w.heap.size w W) => rlatest_any A l.length cap l W hS hP (hx.go h)
  rw [← lat_eq hP] at c2
  have c3 := fun A' cap' W (h : Below w.heap.size w W) (hy : Ints W W.heap.size A' l.length (latP l)) => rends_any A l.length cap l A' cap' (latP l) W hP (hx.go h) hy (lat_bdE hP)
  have c4 := fun i W (h : Below w.heap.size w W) (hi : i < l.length) => afters_any A l.length cap l i W (by have := hP.len; omega) hi (by have := hP.few i hi; omega) (hx.go h)
  have haz : ∀ i, i < l.length → afZ l i = iN (afs l i) := fun i hi => afZ_afs (hP.known i hi)
  obtain ⟨j0, hj, hy0, hy1, hy2⟩ := info_parts jinfo_int
  have hI0 := Lib.hid hj
  have hI1 := Lib.hid hy0
  have hI2 := Lib.hid hy1
  have hI3 := Lib.hid hy2
  obtain ⟨k0, hkj, ky0, ky1, ky2⟩ := info_parts jinfo_bool
  have hJ0 := Lib.hid hkj
  have hJ1 := Lib.hid ky0
  have hJ2 := Lib.hid ky1
  have hJ3 := Lib.hid ky2
  have hL := hP.len
  have hLp := hP.pos
  have hEL := latE_bd hP
  have htr : trn l = trnK (latP l) l.length (endsV l (latP l) + 1).toNat := rfl
  have HTR := Lib.hid htr
  have C1 := Lib.hid c1
  have C2 := Lib.hid c2
  have C3 := Lib.hid c3
  have C4 := Lib.hid c4
  have HAZ := Lib.hid haz
  have HX := Lib.hid hx
  have HP := Lib.hid hP
  have HCM := Lib.hid hcm
  generalize endsV l (latP l) = EL at *
  clear c1 c2 c3 c4 hx hS hP hj hy0 hy1 hy2 hkj ky0 ky1 ky2 haz hE hk htr hcm
  go_enter Try.func49, Try.ntmps49
  go_wp2_with fail
  refine C1.out.mono ?_
  rintro e w1 ⟨rfl, hb⟩
  have HB1 := Lib.hid hb
  clear hb C1
  go_wp2_with fail
  refine (C2.out _ HB1.out).mono ?_
  rintro e w2 ⟨⟨v, rfl, ho⟩, hb⟩
  obtain ⟨A2, capl, rfl, -, -, hI, hg2⟩ := own_ints ho
  have HB2 := Lib.hid (HB1.out.trans (hb.mono HB1.out.size))
  have HLI := Lib.hid hI
  have hlen2 := hb.size
  clear hb ho hI hg2 C2
  have hTn := fun d => trnA_next (latP l) l.length d
  have hTj := fun d j hj => trnJ_len (latP l) l.length d (j := j) hj
  have HTN := Lib.hid hTn
  have HTJ := Lib.hid hTj
  clear hTn hTj
  go_wp2_with fail
  go_loopw [8, 9, 10] (fun v d' i' W => ∃ d : Nat, (d : Int) ≤ EL + 1 ∧ d' = .int .i64 (d : Int) ∧ Hid (W.ownsRow w2.heap.size 3 1 v (trnK (latP l) l.length d).length (icells (iN (trnK (latP l) l.length d)))) ∧ Hid (Below w2.heap.size w2 W)) (fun _ d' _ _ => (EL + 1 - intOf d').toNat)
  case atStart => exact ⟨0, by omega, rfl, Lib.hid (World.ownsRow_nil _ _ _ _), Lib.hid (Below.refl _ _)⟩
  case round =>
    obtain ⟨d, hd, rfl, HO, HB⟩ := hrel
    have hB := HB2.out.trans (HB.out.mono HB2.out.size)
    have hI := Ints.go HLI.out HB.out
    have HBw := Lib.hid hB
    have HIw := Lib.hid hI
    have hbs := HB.out.size
    obtain ⟨A8, cap8, rfl, hq1, hq2, -, -⟩ := own_ints HO.out
    clear hB hI
    go_wp2_with fail
    refine (C3.out A2 capl _ HBw.out HIw.out).mono ?_
    rintro e w3 ⟨rfl, hb⟩
    have HO3 := Lib.hid (jown_later HO.out hb)
    have HB3 := Lib.hid (HB.out.trans (hb.mono hbs))
    clear HO HB hb HBw HIw
    by_cases hde : (d : Int) ≤ EL
    · go_wp2_with fail
      go_loopw [8, 10] (fun v i' W => ∃ j : Nat, j ≤ l.length ∧ i' = .int .i64 (j : Int) ∧ Hid (W.ownsRow w2.heap.size 3 1 v (trnK (latP l) l.length d ++ trnA (latP l) l.length d j).length (icells (iN (trnK (latP l) l.length d ++ trnA (latP l) l.length d j)))) ∧ Hid (Below w2.heap.size w2 W)) (fun _ i' _ => l.length - (intOf i').toNat)
      case atStart => exact ⟨0, Nat.zero_le _, rfl, Lib.hid (by rw [show trnA (latP l) l.length d 0 = [] from rfl, List.append_nil]; exact HO3.out), HB3⟩
      case round =>
        clear HO3 HB3
        obtain ⟨j, hj, rfl, HO, HB⟩ := hrel
        have hbs := HB.out.size
        have htj := HTJ.out d j hj
        have htn := HTN.out d j
        obtain ⟨A9, cap9, rfl, hq3, hq4, -, -⟩ := own_ints HO.out
        by_cases hlj : j < l.length
        · obtain ⟨b, off, rfl, hb0, hc1⟩ := (HLI.out.below HB.out).at_ j hlj
          change wr.cell? _ = some (.int .i64 (gI (latP l) j)) at hc1
          have j1 : (j : Int) < l.length := by omega
          have j2 : ¬ l.length ≤ j := by omega
          have hb1 : b < wr.heap.size := by omega
          generalize gI (latP l) j = G at *
          by_cases hg : G = (d : Int)
          · have hX : trnK (latP l) l.length d ++ trnA (latP l) l.length d (j + 1) = (trnK (latP l) l.length d ++ trnA (latP l) l.length d j) ++ [j] := by rw [htn, if_pos hg, List.append_assoc]
            have HXX := Lib.hid hX
            clear htn hX
            generalize trnK (latP l) l.length d ++ trnA (latP l) l.length d j = X at *
            generalize hX9 : trnK (latP l) l.length d ++ trnA (latP l) l.length d (j + 1) = X' at *
            have HX9 := Lib.hid hX9
            clear hX9
            have HAP : Hid (icells (iN X) ++ [.int .i64 (j : Int)] = icells (iN (X ++ [j]))) := Lib.hid (by rw [iN_app, icells_app]; rfl)
            have HLX : Hid ((X ++ [j]).length = X.length + 1) := Lib.hid (by rw [List.length_append]; rfl)
            subst hg
            go_wp2_with (at_builtin; go_loud (refine wpList_append_own _ rfl (.tmp 49) (.tmp 51) 32 rfl w2.heap.size 3 j0 (.int .i64 0) 1 8 Try.underlying32 hI0.out hI1.out hI2.out hI3.out rfl (by decide) _ _ _ rfl (HO.out.alloc _) ⟨wr.heap.size, 0, none⟩ 1 1 [.int .i64 (j : Int)] rfl rfl (jnews1 _ _ _) (jone1 _) (by unfold maxLen; omega) (by omega) (by simp; omega) ?_); intro v8 w8 hown8 hgrow8 _)
            have hR : Hid (w8.ownsRow w2.heap.size 3 1 v8 X'.length (icells (iN X'))) := Lib.hid (by rw [HXX.out, HLX.out, ← HAP.out]; exact hown8)
            have hb8 : Hid (Below w2.heap.size w2 w8) := Lib.hid ((HB.out.alloc hbs _).trans (grown_below hgrow8 (by simp; omega) (fun q hq => ((HO.out.alloc (.cells #[.int .i64 (j : Int)] 3)).lt q hq).1)))
            clear hown8 hgrow8
            go_roundw
            case rel => exact ⟨j + 1, by omega, by go_num, Lib.hid (by rw [HX9.out]; exact hR.out), hb8⟩
            case measure => simp [intOf]; omega
          · have HX2 : Hid (trnK (latP l) l.length d ++ trnA (latP l) l.length d (j + 1) = trnK (latP l) l.length d ++ trnA (latP l) l.length d j) := Lib.hid (by rw [htn, if_neg hg])
            clear htn
            go_wp2_with fail
            go_roundw
            case rel => exact ⟨j + 1, by omega, by go_num, Lib.hid (by rw [HX2.out]; exact HO.out), HB⟩
            case measure => simp [intOf]; omega
        · have hjn : j = l.length := by omega
          subst hjn
          have j1 : ¬ (l.length : Int) < l.length := by omega
          have HF : Hid (wr.ownsRow w2.heap.size 3 1 (.slice A9 (trnK (latP l) l.length d ++ trnA (latP l) l.length d l.length).length cap9) (trnK (latP l) l.length (d + 1)).length (icells (iN (trnK (latP l) l.length (d + 1))))) := HO
          clear htn
          go_wp2_with fail
          go_roundw
          case rel => exact ⟨d + 1, by omega, by go_num, HF, HB⟩
          case measure => simp [intOf]; omega
    · have hdE : d = (EL + 1).toNat := by omega
      have hX7 : trnK (latP l) l.length d = trn l := by rw [HTR.out, hdE]
      rw [hX7] at HO3 ⊢
      clear hdE hX7
      have HOT := Lib.hid (jown_mono HO3.out (show w.heap.size ≤ w2.heap.size from HB2.out.size))
      have HB4 := Lib.hid (HB2.out.trans (HB3.out.mono HB2.out.size))
      have hbs3 := HB3.out.size
      have hb24 := HB2.out.size
      have hlt8 := HO3.out.lt
      clear HO3 HB3 hlt8 C3 HTN HTJ HLI
      go_wp2_with (first | (at_make; refine wpList_make_full _ rfl _ _ 32 rfl w.heap.size 3 j0 (.int .i64 0) 1 Try.underlying32 hI0.out hI1.out hI2.out _ _ _ _ l.length rfl rfl (by omega) (by omega) (by rw [hI3.out]; omega) (by unfold maxLen; omega) (by omega) ?_; intro w5 hown5 hgrow5; have hs5 := hgrow5.size; go_frame) | (at_make; refine wpList_make_full _ rfl _ _ 75 rfl w.heap.size 4 k0 (.bool false) 1 Try.underlying75 hJ0.out hJ1.out hJ2.out _ _ _ _ l.length rfl rfl (by omega) (by omega) (by rw [hJ3.out]; omega) (by unfold maxLen; omega) (by omega) ?_; intro w6 hown6 hgrow6; go_frame))
      rw [jmade1] at hown5
      rw [bmade] at hown6
      have hb5 : Below w3.heap.size w3 w5 := grown_below hgrow5 (Nat.le_refl _) (fun k hk => by cases hk)
      have hb6 : Below w5.heap.size w5 w6 := grown_below hgrow6 (Nat.le_refl _) (fun k hk => by cases hk)
      have hg5 := (jown_at hown5).1
      have hE0 : LrR l w w3.heap.size w5.heap.size A8 (trn l).length cap8 (schK l c (trn l) 0) w6 :=
        ⟨jown_later hown5 hb6, hown6, jown_later (jown_later HOT.out hb5) hb6, HB4.out.trans ((hb5.trans (hb6.mono hb5.size)).mono HB4.out.size), by omega, fun e => by have := (HOT.out.lt _ e.symm).2; omega, fun e => by have := (HOT.out.lt _ e.symm).2; omega⟩
      have HE0 := Lib.hid hE0
      have hgn : w3.heap.size < w5.heap.size := hg5
      generalize w3.heap.size = go at *
      generalize w5.heap.size = gb at *
      clear hown5 hown6 hgrow5 hgrow6 hb5 hb6 hE0 HOT HB4 hs5 hg5
      rw [show decide ((d : Int) ≤ EL) = false from decide_eq_false (Int.not_le.2 hde)]
      clear hde
      go_loopw [13, 14] (fun d' f' W => ∃ d : Nat, Hid (Run l c d) ∧ d' = .int .i64 (d : Int) ∧ f' = .int .i64 ((l.length : Int) - (schK l c (trn l) d).2.length) ∧ Hid (LrR l w go gb A8 (trn l).length cap8 (schK l c (trn l) d) W)) (fun d' _ _ => ((totD l) + 1 - intOf d').toNat)
      case atStart => exact ⟨0, Lib.hid (Run.zeroth l c), rfl, by simp [schK], HE0⟩
      case round =>
        clear HE0
        obtain ⟨d, HR, rfl, rfl, HE⟩ := hrel
        have hbd := HR.out.bd HP.out
        have hlel := HR.out.inv.len_le
        have hc0 : 0 ≤ c := by omega
        have htb := totD_bd HP.out
        have hms : (totD l + 1 - ((d : Int) + 1)).toNat < (totD l + 1 - (d : Int)).toNat := day_ms hbd
        by_cases hfull : (schK l c (trn l) d).2.length < l.length
        · have hgt : (0 : Int) < (l.length : Int) - (schK l c (trn l) d).2.length := by omega
          have HTN := Lib.hid (fun k hk => tkF_next (l := l) (c := c) (d := d) (s := schK l c (trn l) d) (k := k) hk)
          have HTB := Lib.hid (fun k => tkF_bd HP.out hc0 HR.out k)
          have HTE : Hid (∀ k, (trn l).length ≤ k → tkF l c d (schK l c (trn l) d) k = schK l c (trn l) (d + 1)) := Lib.hid (fun k hk => tkF_end hk)
          have HTL := Lib.hid (fun i hi => ((trn_is HP.out).mem i).1 hi)
          have HRN := Lib.hid (HR.out.next HP.out HCM.out hfull)
          have HT0 : Hid (tkF l c d (schK l c (trn l) d) 0 = schK l c (trn l) d) := Lib.hid rfl
          generalize hTT : tkF l c d (schK l c (trn l) d) = TT at *
          clear hTT
          generalize hss : schK l c (trn l) d = s at *
          have HSS := Lib.hid hss
          clear hss HR
          go_wp2_with fail
          go_loopw [14, 15] (fun f' k' W => ∃ k : Nat, k ≤ (trn l).length ∧ k' = .int .i64 (k : Int) ∧ f' = .int .i64 ((l.length : Int) - (TT k).2.length) ∧ Hid (LrR l w go gb A8 (trn l).length cap8 (TT k) W)) (fun _ k' _ => (trn l).length - (intOf k').toNat)
          case atStart => exact ⟨0, Nat.zero_le _, rfl, by rw [HT0.out], Lib.hid (by rw [HT0.out]; exact HE.out)⟩
          case round =>
            clear HE HT0
            obtain ⟨k, hk, rfl, rfl, HE⟩ := hrel
            by_cases hlt : k < (trn l).length
            · have hil := HTL.out _ (List.getElem_mem hlt)
              obtain ⟨A5, cap5, he, -, -, hI5, -⟩ := own_ints HE.out.trn
              injection he with he1 he2 he3
              subst he1 he3
              obtain ⟨b5, off5, rfl, hb5, hc5⟩ := hI5.at_ k hlt
              change wr.cell? _ = some (.int .i64 (gI (iN (trn l)) k)) at hc5
              rw [iN_at hlt] at hc5
              have hnx := HTN.out k hlt
              obtain ⟨htl, htb2⟩ := HTB.out k
              generalize (trn l)[k] = i at *
              generalize hTk : TT k = t at *
              have HTK := Lib.hid hTk
              clear hTk
              have hbc := (vown_at HE.out.beg).2.2.1 i hil
              rw [bcells_at hil] at hbc
              obtain ⟨B0, hB0⟩ : ∃ B0, B0 = !t.2.contains i := ⟨_, rfl⟩
              have hB1 : t.2.contains i = !B0 := by rw [hB0, Bool.not_not]
              rw [hB1] at hbc
              have HB0 := Lib.hid hB0
              clear hB1 hB0
              have c4 := C4.out i wr HE.out.bel hil
              rw [HAZ.out i hil, iN_len] at c4
              have hm10 : (afs l i).length ≤ 10 := by rw [afs_len]; exact HP.out.few i hil
              have k1 : (k : Int) < (trn l).length := by omega
              have k2 : ¬ (trn l).length ≤ k := by omega
              have i1 : (i : Int) < l.length := by omega
              have i2 : ¬ l.length ≤ i := by omega
              have hkl : k < l.length := Nat.lt_of_lt_of_le hlt (trnK_len _ _ _)
              have hgb := (vown_at HE.out.beg).1
              have hgo := (jown_at HE.out.out).1
              have HNX := Lib.hid hnx
              have HTL2 := Lib.hid htl
              have HTB2 := Lib.hid htb2
              have C4' := Lib.hid c4
              clear hnx htb2 c4 hI5
              go_wp2_with fail
              refine C4'.out.mono ?_
              rintro e w4 ⟨⟨v4, rfl, ho4⟩, hb4⟩
              obtain ⟨A4, cap4, rfl, hq4, hq5, hI4, -⟩ := own_ints ho4
              have HE4 := Lib.hid (HE.out.later hb4)
              have HI4 := Lib.hid hI4
              have HR0 : Hid (B0 = rdJ l t d i 0) := Lib.hid (by rw [rdJ_zero, HB0.out])
              clear ho4 hI4 C4' hb4 HE hc5 hb5 hbc HB0 hgb hgo
              go_wp2_with fail
              go_loopw [17, 19] (fun b' j' W => ∃ j : Nat, ∃ B : Bool, j ≤ (afs l i).length ∧ j' = .int .i64 (j : Int) ∧ b' = .bool B ∧ Hid (B = rdJ l t d i j) ∧ Hid (LrR l w go gb (some ⟨b5, off5, none⟩) (trn l).length cap8 t W) ∧ Hid (Ints W W.heap.size A4 (afs l i).length (iN (afs l i)))) (fun _ j' _ => (afs l i).length - (intOf j').toNat)
              case atStart => exact ⟨0, _, Nat.zero_le _, rfl, rfl, HR0, HE4, HI4⟩
              case round =>
                clear HR0 HE4 HI4
                obtain ⟨j, B, hj, rfl, rfl, HBj, HE, HI⟩ := hrel
                by_cases hlj : j < (afs l i).length
                · obtain ⟨b6, off6, rfl, hb6, hc6⟩ := HI.out.at_ j hlj
                  change wr.cell? _ = some (.int .i64 (gI (iN (afs l i)) j)) at hc6
                  rw [iN_at hlj] at hc6
                  have hal := afs_lt HP.out hil (List.getElem_mem hlj)
                  have hnx := rdJ_next (t := t) (d := (d : Int)) hlj
                  rw [← HBj.out] at hnx
                  generalize (afs l i)[j] = a at *
                  obtain ⟨b7, off7, rfl, hb7, -, hc7, -, -⟩ := (HX.out.below HE.out.bel).at_ a hal
                  have hb7' : b7 < wr.heap.size := by have := HE.out.bel.size; omega
                  have hvb := vown_at HE.out.beg
                  have hvc := hvb.2.2.1 a hal
                  rw [bcells_at hal] at hvc
                  have hvg := hvb.1
                  have hjo := jown_at HE.out.out
                  have hjc := hjo.2.2.1 a hal
                  have hjg := hjo.1
                  have hga := HTB2.out a
                  have hda := dy_bd HP.out hal
                  change 1 ≤ (tkA l a).dy ∧ (tkA l a).dy ≤ 1000 at hda
                  change rdJ l t d i (j + 1) = (B && (t.2.contains a && decide (gI t.1 a + (tkA l a).dy ≤ d))) at hnx
                  generalize (tkA l a).dy = Y at *
                  generalize gI t.1 a = G at *
                  generalize t.2.contains a = CB at *
                  have a1 : (a : Int) < l.length := by omega
                  have a2 : ¬ l.length ≤ a := by omega
                  have j1 : (j : Int) < (afs l i).length := by omega
                  have j2 : ¬ (afs l i).length ≤ j := by omega
                  have hwr := dy_wrap hga hda hbd htb hL
                  clear hvb hjo hal
                  cases B with
                  | false =>
                    have HNX : Hid (false = rdJ l t d i (j + 1)) := Lib.hid (by rw [hnx, Bool.false_and])
                    clear hnx hvc hjc hc7
                    go_wp2_with fail
                    (refine wp_region_later (by kernel_rfl) (by kernel_rfl) ?_; (repeat (go_big_quiet_step ((fail)))); refine wpQuiet_nil ?_)
                    intro w6 hb6
                    have HE6 := Lib.hid (HE.out.later hb6)
                    have HI6 := Lib.hid (HI.out.go hb6)
                    clear hb6 HE HI
                    go_wp2_with fail
                    go_roundw
                    case rel => exact ⟨j + 1, false, by omega, by go_num, rfl, HNX, HE6, HI6⟩
                    case measure => simp [intOf]; omega
                  | true =>
                    cases CB with
                    | false =>
                      have HNX : Hid (false = rdJ l t d i (j + 1)) := Lib.hid (by rw [hnx]; rfl)
                      clear hnx hjc hc7
                      go_wp2_with fail
                      (refine wp_region_later (by kernel_rfl) (by kernel_rfl) ?_; (repeat (go_big_quiet_step ((fail)))); refine wpQuiet_nil ?_)
                      intro w6 hb6
                      have HE6 := Lib.hid (HE.out.later hb6)
                      have HI6 := Lib.hid (HI.out.go hb6)
                      clear hb6 HE HI
                      go_wp2_with fail
                      go_roundw
                      case rel => exact ⟨j + 1, false, by omega, by go_num, rfl, HNX, HE6, HI6⟩
                      case measure => simp [intOf]; omega
                    | true =>
                      by_cases hle : G + Y ≤ (d : Int)
                      · have HNX : Hid (true = rdJ l t d i (j + 1)) := Lib.hid (by rw [hnx, decide_eq_true hle]; rfl)
                        clear hnx
                        go_wp2_with fail
                        (refine wp_region_later (by kernel_rfl) (by kernel_rfl) ?_; (repeat (go_big_quiet_step ((fail)))); refine wpQuiet_nil ?_)
                        intro w6 hb6
                        have HE6 := Lib.hid (HE.out.later hb6)
                        have HI6 := Lib.hid (HI.out.go hb6)
                        clear hb6 HE HI hvc hjc hc7 hwr
                        go_wp2_with fail
                        go_roundw
                        case rel => exact ⟨j + 1, true, by omega, by go_num, rfl, HNX, HE6, HI6⟩
                        case measure => simp [intOf]; omega
                      · have HNX : Hid (false = rdJ l t d i (j + 1)) := Lib.hid (by rw [hnx, decide_eq_false hle]; rfl)
                        have HLE := Lib.hid (decide_eq_false hle)
                        clear hnx
                        go_wp2_with fail
                        (refine wp_region_later (by kernel_rfl) (by kernel_rfl) ?_; (repeat (go_big_quiet_step ((fail)))); refine wpQuiet_nil ?_)
                        intro w6 hb6
                        have HE6 := Lib.hid (HE.out.later hb6)
                        have HI6 := Lib.hid (HI.out.go hb6)
                        clear hb6 HE HI hvc hjc hc7 hwr
                        go_wp2_with fail
                        go_roundw
                        case rel => exact ⟨j + 1, false, by omega, by go_num, by first | rfl | rw [HLE.out], HNX, HE6, HI6⟩
                        case measure => simp [intOf]; omega
                · have hjn : j = (afs l i).length := by omega
                  have j1 : ¬ (j : Int) < (afs l i).length := by omega
                  have HBE : Hid (B = rdD l t.1 t.2 d i) := Lib.hid (by rw [HBj.out, hjn, rdJ_end])
                  obtain ⟨b7, off7, rfl, hb7, -, -, hc7, -⟩ := (HX.out.below HE.out.bel).at_ i hil
                  have hb7' : b7 < wr.heap.size := by have := HE.out.bel.size; omega
                  have HS0 : Hid ((tkA l i).mn = mnA l i + sN (rnF l t.1 t.2 d) 0) := Lib.hid (by show mnA l i = mnA l i + 0; omega)
                  have HRB := Lib.hid (fun j hj => rnS_bd HP.out (t := t) (d := (d : Int)) (i := i) hil (j := j) hj)
                  generalize (tkA l i).mn = Z0 at *
                  clear HBj hjn HI
                  go_wp2_with fail
                  clear hc7
                  go_loopw [20, 21] (fun b' j' W => ∃ j : Nat, j ≤ l.length ∧ j' = .int .i64 (j : Int) ∧ b' = .int .i64 (mnA l i + sN (rnF l t.1 t.2 d) j) ∧ Hid (LrR l w go gb (some ⟨b5, off5, none⟩) (trn l).length cap8 t W)) (fun _ j' _ => l.length - (intOf j').toNat)
                  case atStart => exact ⟨0, Nat.zero_le _, rfl, by rw [HS0.out], HE⟩
                  case round =>
                    clear HE HS0
                    obtain ⟨q, hq, rfl, rfl, HE⟩ := hrel
                    by_cases hlq : q < l.length
                    · obtain ⟨b8, off8, e8, hb8, -, hc7, hc8, -⟩ := (HX.out.below HE.out.bel).at_ q hlq
                      injection e8 with e8
                      injection e8 with e81 e82
                      subst e81 e82
                      have hvb := vown_at HE.out.beg
                      have hvc := hvb.2.2.1 q hlq
                      rw [bcells_at hlq] at hvc
                      have hvg := hvb.1
                      have hjo := jown_at HE.out.out
                      have hjc := hjo.2.2.1 q hlq
                      have hjg := hjo.1
                      have hb7q : b7 < wr.heap.size := by have := HE.out.bel.size; omega
                      have hga := HTB2.out q
                      have hda := dy_bd HP.out hlq
                      have hmz := mnA_bd HP.out hlq
                      change 1 ≤ (tkA l q).dy ∧ (tkA l q).dy ≤ 1000 at hda
                      change 1 ≤ (tkA l q).mn ∧ (tkA l q).mn ≤ 16 at hmz
                      have hrb := HRB.out q hq
                      have hnx : mnA l i + sN (rnF l t.1 t.2 d) (q + 1) = mnA l i + sN (rnF l t.1 t.2 d) q + if t.2.contains q && decide ((d : Int) < gI t.1 q + (tkA l q).dy) then (tkA l q).mn else 0 := by
                        rw [Int.add_assoc]; rfl
                      generalize hM9 : mnA l i + sN (rnF l t.1 t.2 d) (q + 1) = M9 at *
                      have HM9 := Lib.hid hM9
                      generalize mnA l i + sN (rnF l t.1 t.2 d) q = M at *
                      generalize (tkA l q).dy = Y at *
                      generalize (tkA l q).mn = Z at *
                      generalize gI t.1 q = G at *
                      generalize t.2.contains q = CB at *
                      have q1 : (q : Int) < l.length := by omega
                      have q2 : ¬ l.length ≤ q := by omega
                      have hwr := dy_wrap hga hda hbd htb hL
                      have hwr3 := mn_wrap hrb hmz hL hlq
                      clear hvb hjo hM9
                      cases CB with
                      | false =>
                        have HNX : Hid (M9 = M) := Lib.hid (by rw [hnx]; simp)
                        clear hnx hjc hc7 hc8 hwr hwr3
                        go_wp2_with fail
                        (refine wp_region_later (by kernel_rfl) (by kernel_rfl) ?_; (repeat (go_big_quiet_step ((fail)))); refine wpQuiet_nil ?_)
                        intro w6 hb6
                        have HE6 := Lib.hid (HE.out.later hb6)
                        clear hb6 HE
                        go_wp2_with fail
                        go_roundw
                        case rel => exact ⟨q + 1, by omega, by go_num, by rw [HM9.out, HNX.out], HE6⟩
                        case measure => simp [intOf]; omega
                      | true =>
                        by_cases hle : (d : Int) < G + Y
                        · have HNX : Hid (M9 = M + Z) := Lib.hid (by rw [hnx, decide_eq_true hle]; rfl)
                          clear hnx
                          go_wp2_with fail
                          (refine wp_region_later (by kernel_rfl) (by kernel_rfl) ?_; (repeat (go_big_quiet_step ((fail)))); refine wpQuiet_nil ?_)
                          intro w6 hb6
                          have t2 := (hb6.cell (p := ⟨b7, off7 + q * 4 + 2, none⟩) hb7q).trans hc8
                          have hb7r : b7 < w6.heap.size := by have := hb6.size; omega
                          have HE6 := Lib.hid (HE.out.later hb6)
                          clear hb6 HE hvc hjc hc7 hc8 hwr
                          go_wp2_with fail
                          go_roundw
                          case rel => exact ⟨q + 1, by omega, by go_num, by rw [HM9.out, HNX.out], HE6⟩
                          case measure => simp [intOf]; omega
                        · have HNX : Hid (M9 = M) := Lib.hid (by rw [hnx, decide_eq_false hle]; simp)
                          clear hnx
                          go_wp2_with fail
                          (refine wp_region_later (by kernel_rfl) (by kernel_rfl) ?_; (repeat (go_big_quiet_step ((fail)))); refine wpQuiet_nil ?_)
                          intro w6 hb6
                          have HE6 := Lib.hid (HE.out.later hb6)
                          clear hb6 HE hvc hjc hc7 hc8 hwr hwr3
                          go_wp2_with fail
                          go_roundw
                          case rel => exact ⟨q + 1, by omega, by go_num, by rw [HM9.out, HNX.out], HE6⟩
                          case measure => simp [intOf]; omega
                    · have hqn : q = l.length := by omega
                      have q1 : ¬ (q : Int) < l.length := by omega
                      have HM : Hid (mnA l i + sN (rnF l t.1 t.2 d) q = mnA l i + runL l t.1 t.2 d) := Lib.hid (by rw [hqn]; rfl)
                      rw [HM.out]
                      have hyes := fun (hB : B = true) (hm : mnA l i + runL l t.1 t.2 d ≤ c) => stR_yes (l := l) (c := c) (d := (d : Int)) (t := t) (i := i) (HBE.out.symm.trans hB) hm
                      have hno := fun (h : ¬ (B = true ∧ mnA l i + runL l t.1 t.2 d ≤ c)) => stR_no (l := l) (c := c) (d := (d : Int)) (t := t) (i := i) (by rw [← HBE.out]; exact h)
                      generalize mnA l i + runL l t.1 t.2 d = MR at *
                      have hjg := (jown_at HE.out.out).1
                      have hvg := (vown_at HE.out.beg).1
                      have hfo := (jown_at HE.out.out).2.2.2 i
                      have hfb := (vown_at HE.out.beg).2.2.2 i
                      have htl5 := HTL2.out
                      cases B with
                      | false =>
                        have HNT : Hid (TT (k + 1) = t) := Lib.hid (by rw [HNX.out, hno (by simp)])
                        clear hyes hno hfo hfb HM HBE HRB
                        go_wp2_with fail
                        go_roundw
                        case rel => exact ⟨k + 1, by omega, by go_num, by rw [HNT.out], Lib.hid (by rw [HNT.out]; exact HE.out)⟩
                        case measure => simp [intOf]; omega
                      | true =>
                        by_cases hm : MR ≤ c
                        · have HNT : Hid (TT (k + 1) = (t.1.set i (d : Int), t.2 ++ [i])) := Lib.hid (by rw [HNX.out, hyes rfl hm])
                          have hco := (jown_at HE.out.out).2.2.1 i hil
                          have hcb := ((vown_at HE.out.beg).2.2.1 i hil).trans (bcells_at hil)
                          obtain ⟨hcm, hfm⟩ := HE.out.mid hil (d : Int)
                          generalize gI t.1 i = Gi at *
                          generalize t.2.contains i = CB at *
                          have hne9 := HE.out.ne.1
                          have HE9 := Lib.hid (HE.out.store hil (d : Int))
                          have HLN := Lib.hid (left_next (n := l.length) (i := i) t.2 htl5 hL)
                          clear hyes hno HM HBE HRB HE
                          go_wp2_with fail
                          go_roundw
                          case rel => exact ⟨k + 1, by omega, by go_num, by rw [HNT.out, ← HLN.out], Lib.hid (by rw [HNT.out]; exact HE9.out)⟩
                          case measure => simp [intOf]; omega
                        · have HNT : Hid (TT (k + 1) = t) := Lib.hid (by rw [HNX.out, hno (by simp [hm])])
                          clear hyes hno hfo hfb HM HBE HRB
                          go_wp2_with fail
                          go_roundw
                          case rel => exact ⟨k + 1, by omega, by go_num, by rw [HNT.out], Lib.hid (by rw [HNT.out]; exact HE.out)⟩
                          case measure => simp [intOf]; omega
            · have hkn : (trn l).length ≤ k := Nat.le_of_not_lt hlt
              have k1 : ¬ (k : Int) < (trn l).length := fun h => hlt (Int.ofNat_lt.1 h)
              have HF : Hid (LrR l w go gb A8 (trn l).length cap8 (schK l c (trn l) (d + 1)) wr) := Lib.hid (by rw [← HTE.out k hkn]; exact HE.out)
              have HG : Hid ((l.length : Int) - (TT k).2.length = (l.length : Int) - (schK l c (trn l) (d + 1)).2.length) := Lib.hid (by rw [HTE.out k hkn])
              rw [HG.out]
              clear HE HTN HTB HTE HTL HG hkn HSS C4 HX HAZ HCM HTR HP
              go_wp2_with fail
              go_roundw
              case rel => exact ⟨d + 1, HRN, by go_num, rfl, HF⟩
              case measure => exact hms
        · have hgt : ¬ (0 : Int) < (l.length : Int) - (schK l c (trn l) d).2.length := by omega
          have HF : Hid (wr.ownsRow w.heap.size 3 1 (.slice (some ⟨go, 0, none⟩) l.length l.length) (LST l c).length (icells (LST l c))) := Lib.hid (by
            have h1 := sch_done HP.out HR.out hfull
            have h2 := jown_lt HE.out.out
            have h3 := HE.out.out
            rw [h1] at h2 h3
            rw [h2]; exact h3)
          have HBF := Lib.hid HE.out.bel
          clear HE
          go_wp2_with fail
          go_ret2
          exact ⟨⟨_, rfl, HF.out⟩, HBF.out⟩
set_option maxRecDepth 20000 in
set_option maxHeartbeats 8000000 in
theorem rlisted_any (A : Option Addr) (len cap : Nat) (l : List Tk) (c : Int) (w : World) (hS : Sml l) (hx : Plan w w.heap.size A len l) :
    Calls Try.prog 49 #[.slice A len cap, .int .i64 c] w fun e w' => (∃ v, e = .returned (.tuple #[v, .int .i64 (crewE l c)]) ∧ w'.ownsRow w.heap.size 3 1 v (lstX l c).length (icells (lstX l c))) ∧ Below w.heap.size w w' := by
  by_cases hE : crewE l c = 0
  · rw [show lstX l c = LST l c from if_pos hE, hE]
    exact rlisted_ok A len cap l c w hS hE hx
  · rw [show lstX l c = [] from if_neg hE]
    have c1 := strong_any A len cap l c w hS hx
    have hne : (crewE l c == 0) = false := by simpa using hE
    generalize crewE l c = E at *
    have C1 := Lib.hid c1
    clear c1 hE hx hS
    go_enter Try.func49, Try.ntmps49
    go_wp2_with fail
    refine C1.out.mono ?_
    rintro e w1 ⟨rfl, hb⟩
    have HB := Lib.hid hb
    clear hb
    go_wp2_with fail
    go_ret2
    exact ⟨⟨.slice none 0 0, rfl, World.ownsRow_nil _ _ _ _⟩, HB.out⟩
end Go.Proofs.Ytgijekhlbkfanaa
