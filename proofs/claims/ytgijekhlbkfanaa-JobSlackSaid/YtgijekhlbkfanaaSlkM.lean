/- Joined by merge.py from: JobT JobS1 JobS2 JobS3 JobU JobU2 JobU3 LSlack. -/
import Derived.Test.YtgijekhlbkfanaaJobC
import Derived.Test.YtgijekhlbkfanaaJobQ9
import Derived.Test.YtgijekhlbkfanaaJobR6
import Derived.Test.YtgijekhlbkfanaaJobQ2
import Derived.Test.YtgijekhlbkfanaaMix
import Derived.Test.YtgijekhlbkfanaaTail
import Derived.Deep.DeepCutAuto
import Derived.Laws.EntriesVeiled
import Derived.Test.YtgijekhlbkfanaaJobR5
import Derived.Test.YtgijekhlbkfanaaJobW
import Derived.Test.YtgijekhlbkfanaaJobI
import Derived.Test.YtgijekhlbkfanaaJobO
import Derived.Test.YtgijekhlbkfanaaStepSrc
import Derived.Shelf.RegionOpenPlain
import Derived.Lib.SliceRun
import Derived.Test.YtgijekhlbkfanaaJobD
import Derived.Test.YtgijekhlbkfanaaJobZ
import Derived.Test.YtgijekhlbkfanaaJobG
set_option linter.unusedSimpArgs false
set_option linter.unusedVariables false
namespace Go.Proofs.Ytgijekhlbkfanaa

/-- One task of the reference's walk. -/
def wtS (l : List Tk) (i : Nat) (R : Nat → Bool) (t : Nat) : Nat → Bool := fun j => R j || (decide (j = t) && (afs l t).any fun a => decide (a = i) || R a)
def wtK (l : List Tk) (i k : Nat) : Nat → Bool := ((ord l).take k).foldl (wtS l i) (fun _ => false)
def wtR (l : List Tk) (i : Nat) : Nat → Bool := (ord l).foldl (wtS l i) (fun _ => false)
def wtL (l : List Tk) (i : Nat) : List Nat := (List.range l.length).filter (wtR l i)
def wtX (l : List Tk) (s : ByteArray) : List Nat := if nmE l s = 0 then wtL l (fnd l s) else []
/-- One task of the program's walk: the names that wait. -/
def wmC (l : List Tk) (M : ByteArray → Option Bool) (t : Nat) : Bool := (tkA l t).af.any fun s => (M s).getD false
def wmS (l : List Tk) (M : ByteArray → Option Bool) (t : Nat) : ByteArray → Option Bool := if wmC l M t then upd M (tkA l t).nm true else M
def wm0 (s : ByteArray) : ByteArray → Option Bool := upd (fun _ => none) s true
def wmK (l : List Tk) (s : ByteArray) (k : Nat) : ByteArray → Option Bool := ((ord l).take k).foldl (wmS l) (wm0 s)
theorem wmK_next {l : List Tk} {s : ByteArray} {k : Nat} (hk : k < (ord l).length) : wmK l s (k + 1) = wmS l (wmK l s k) (ord l)[k] := by
  unfold wmK
  rw [List.take_succ_eq_append_getElem hk, List.foldl_append]
  rfl
theorem wtK_next {l : List Tk} {i : Nat} {k : Nat} (hk : k < (ord l).length) : wtK l i (k + 1) = wtS l i (wtK l i k) (ord l)[k] := by
  unfold wtK
  rw [List.take_succ_eq_append_getElem hk, List.foldl_append]
  rfl
theorem wtK_all {l : List Tk} {i : Nat} : wtK l i (ord l).length = wtR l i := by unfold wtK wtR; rw [List.take_length]
def MR (l : List Tk) (i : Nat) (M : ByteArray → Option Bool) (R : Nat → Bool) : Prop := ∀ j, j < l.length → (M (tkA l j).nm).getD false = (decide (j = i) || R j)
theorem MR.step {l : List Tk} (h : okP l) {i t : Nat} (ht : t < l.length) {M : ByteArray → Option Bool} {R : Nat → Bool} (hM : MR l i M R) : MR l i (wmS l M t) (wtS l i R t) ∧ wmC l M t = (afs l t).any fun a => decide (a = i) || R a := by
  have hc : wmC l M t = (afs l t).any fun a => decide (a = i) || R a := by
    unfold wmC afs
    rw [List.any_map, Bool.eq_iff_iff, List.any_eq_true, List.any_eq_true]
    have hs : ∀ s ∈ (tkA l t).af, (M s).getD false = ((fun a => decide (a = i) || R a) ∘ fnd l) s := fun s hs => by
      have hk := h.known t ht s hs
      have := hM (fnd l s) hk
      rw [fnd_at hk] at this
      exact this
    constructor
    · rintro ⟨s, h1, h2⟩; exact ⟨s, h1, by rw [← hs s h1]; exact h2⟩
    · rintro ⟨s, h1, h2⟩; exact ⟨s, h1, by rw [hs s h1]; exact h2⟩
  refine ⟨fun j hj => ?_, hc⟩
  unfold wmS wtS
  rw [hc]
  cases (afs l t).any fun a => decide (a = i) || R a
  · simp only [Bool.false_eq_true, if_false, Bool.and_false, Bool.or_false]
    exact hM j hj
  · simp only [if_true, Bool.and_true]
    by_cases hjt : j = t
    · subst hjt
      rw [upd_same]
      simp
    · have hne : (tkA l j).nm ≠ (tkA l t).nm := fun e => by
        have h1 := h.apart j hj
        rw [e, h.apart t ht] at h1
        exact hjt h1.symm
      rw [upd_other hne, hM j hj, decide_eq_false hjt, Bool.or_false]
theorem MR.all {l : List Tk} (h : okP l) {i : Nat} (hi : i < l.length) (k : Nat) (hk : k ≤ (ord l).length) : MR l i (wmK l (tkA l i).nm k) (wtK l i k) := by
  induction k with
  | zero =>
    intro j hj
    show (upd (fun _ => none) (tkA l i).nm true (tkA l j).nm).getD false = (decide (j = i) || false)
    by_cases hji : j = i
    · subst hji; rw [upd_same]; simp
    · have hne : (tkA l j).nm ≠ (tkA l i).nm := fun e => by
        have h1 := h.apart j hj
        rw [e, h.apart i hi] at h1
        exact hji h1.symm
      rw [upd_other hne, decide_eq_false hji]
      rfl
  | succ k ih =>
    rw [wmK_next hk, wtK_next hk]
    exact (MR.step h (ord_lt (List.getElem_mem hk)) (ih (by omega))).1
theorem wtK_ear {l : List Tk} (h : okP l) {i : Nat} (k : Nat) (hk : k ≤ (ord l).length) : ∀ j, wtK l i k j = true → gI (ear l) i < gI (ear l) j := by
  induction k with
  | zero => intro j hj; exact absurd hj (by show ¬ false = true; decide)
  | succ k ih =>
    intro j hj
    rw [wtK_next hk] at hj
    unfold wtS at hj
    rw [Bool.or_eq_true, Bool.and_eq_true, decide_eq_true_eq, List.any_eq_true] at hj
    rcases hj with hj | ⟨rfl, a, ha, hj⟩
    · exact ih (by omega) j hj
    · have hl := ord_lt (List.getElem_mem (l := ord l) (n := k) hk)
      have h1 := ear_le h hl ha
      have h2 := (dy_bd h (afs_lt h hl ha)).1
      rw [Bool.or_eq_true, decide_eq_true_eq] at hj
      rcases hj with rfl | hj
      · omega
      · have := ih (by omega) a hj; omega
/-- What is left in the map when the name is struck. -/
theorem wm_end {l : List Tk} (h : okP l) {i j : Nat} (hi : i < l.length) (hj : j < l.length) : (dlt (wmK l (tkA l i).nm (ord l).length) (tkA l i).nm (tkA l j).nm).getD false = wtR l i j := by
  by_cases hji : j = i
  · subst hji
    rw [dlt_same]
    show false = _
    symm
    rw [Bool.eq_false_iff]
    intro hh
    rw [← wtK_all] at hh
    have := wtK_ear h _ (Nat.le_refl _) _ hh
    omega
  · have hne : (tkA l j).nm ≠ (tkA l i).nm := fun e => by
      have h1 := h.apart j hj
      rw [e, h.apart i hi] at h1
      exact hji h1.symm
    rw [dlt_other hne, MR.all h hi _ (Nat.le_refl _) j hj, decide_eq_false hji, Bool.false_or, wtK_all]
def wtT (l : List Tk) (i k : Nat) : List Nat := (List.range k).filter (wtR l i)
theorem wtT_next {l : List Tk} {i k : Nat} : wtT l i (k + 1) = if wtR l i k then wtT l i k ++ [k] else wtT l i k := by
  unfold wtT
  rw [List.range_succ, List.filter_append]
  cases hc : wtR l i k <;> simp [hc]
theorem wtT_len {l : List Tk} {i k : Nat} : (wtT l i k).length ≤ k := by
  have := List.length_filter_le (wtR l i) (List.range k)
  rw [List.length_range] at this
  exact this
end Go.Proofs.Ytgijekhlbkfanaa

namespace Go.Proofs.Ytgijekhlbkfanaa
open Go.RowKit
attribute [local go_sem] Later.cell Same.cell

set_option maxRecDepth 20000 in
set_option maxHeartbeats 8000000 in
theorem rnamed_any (A : Option Addr) (len cap : Nat) (l : List Tk) (s : ByteArray) (w : World) (hS : Sml l) (hs : s.size ≤ 9223372036854775807) (hx : Plan w w.heap.size A len l) :
    Calls Try.prog 79 #[.slice A len cap, .string s] w fun e w' => e = .returned (.tuple #[.int .i64 (nmV l s), .int .i64 (nmE l s)]) ∧ Below w.heap.size w w' := by
  obtain rfl : l.length = len := hx.1
  have c1 := rCheck_any A l.length cap l w hS hx
  have c2 := fun W (h : Below w.heap.size w W) => find_any A l.length cap l s W (by have := hS.len; omega) (hx.go h)
  rcases nm_cases l s with ⟨h0, h1, h2, h3⟩ | ⟨h0, h1, h2, h3⟩ | ⟨h0, h2, h3⟩
  · rw [h2, h3]
    rw [h0] at c1
    have hf : fndZ l s = (fnd l s : Int) := by unfold fndZ; rw [if_pos h1]
    simp only [hf] at c2
    generalize fnd l s = F at *
    have C1 := Lib.hid c1
    have C2 := Lib.hid c2
    have hF : ¬ (F : Int) < 0 := by omega
    clear c1 c2 hx h0 h1 h2 h3 hf
    go_enter Try.func79, Try.ntmps79
    go_wp2_with fail
    refine C1.out.mono ?_
    rintro e w1 ⟨rfl, hb⟩
    have HB1 := Lib.hid hb
    clear hb
    go_wp2_with fail
    refine (C2.out _ HB1.out).mono ?_
    rintro e w2 ⟨rfl, hb⟩
    have HB2 := Lib.hid (HB1.out.trans (hb.mono HB1.out.size))
    clear hb
    go_wp2
    go_ret2
    exact ⟨rfl, HB2.out⟩
  · rw [h2, h3]
    rw [h0] at c1
    have hf : fndZ l s = -1 := by unfold fndZ; rw [if_neg h1]
    simp only [hf] at c2
    have C1 := Lib.hid c1
    have C2 := Lib.hid c2
    clear c1 c2 hx h0 h1 h2 h3 hf
    go_enter Try.func79, Try.ntmps79
    go_wp2_with fail
    refine C1.out.mono ?_
    rintro e w1 ⟨rfl, hb⟩
    have HB1 := Lib.hid hb
    clear hb
    go_wp2_with fail
    refine (C2.out _ HB1.out).mono ?_
    rintro e w2 ⟨rfl, hb⟩
    have HB2 := Lib.hid (HB1.out.trans (hb.mono HB1.out.size))
    clear hb
    go_wp2
    go_ret2
    exact ⟨rfl, HB2.out⟩
  · rw [h2, h3]
    have hne : (checkE l == 0) = false := by simpa using h0
    generalize checkE l = E at *
    have C1 := Lib.hid c1
    clear c1 c2 hx h0 h2 h3
    go_enter Try.func79, Try.ntmps79
    go_wp2_with fail
    refine C1.out.mono ?_
    rintro e w1 ⟨rfl, hb⟩
    have HB1 := Lib.hid hb
    clear hb
    go_wp2
    go_ret2
    exact ⟨rfl, HB1.out⟩
set_option maxRecDepth 20000 in
set_option maxHeartbeats 16000000 in
theorem rSlack_any (A : Option Addr) (len cap : Nat) (l : List Tk) (s : ByteArray) (w : World) (hS : Sml l) (hs : s.size ≤ 9223372036854775807) (hx : Plan w w.heap.size A len l) :
    Calls Try.prog 36 #[.slice A len cap, .string s] w fun e w' => e = .returned (.tuple #[.int .i64 (slkV l s), .int .i64 (nmE l s)]) ∧ Below w.heap.size w w' := by
  obtain rfl : l.length = len := hx.1
  have c1 := rnamed_any A l.length cap l s w hS hs hx
  by_cases h0 : nmE l s = 0
  · have hv : slkV l s = slk l (fnd l s) := if_pos h0
    have hn : nmV l s = (fnd l s : Int) := by unfold nmV; rw [if_pos h0]
    have hc : checkE l = 0 ∧ fnd l s < l.length := by
      rcases nm_cases l s with ⟨a, b, -⟩ | ⟨-, -, a, -⟩ | ⟨a, b, -⟩
      · exact ⟨a, b⟩
      · rw [h0] at a; cases a
      · rw [h0] at b; exact absurd b.symm a
    have hP := check_spec hc.1
    have c3 := fun W (h : Below w.heap.size w W) => rearliest_any A l.length cap l W hS hP (hx.go h)
    have c4 := fun W (h : Below w.heap.size w W) => (rlatest_any A l.length cap l W hS hP (hx.go h))
    simp only [← lat_eq hP] at c4
    have hse : slk l (fnd l s) = gI (latP l) (fnd l s) - gI (ear l) (fnd l s) := rfl
    rw [hn, h0] at c1
    rw [hv, h0]
    have hF := hc.2
    have hb1 := ear_bd hP (fnd l s)
    have hb2 := latK_bd hP (ord l).length
    rw [latK_end (Nat.le_refl _)] at hb2
    have hb3 := hb2 (fnd l s)
    have hol := hP.all
    have hl := hP.len
    have hF1 : ((fnd l s : Nat) : Int) < l.length := by omega
    have hF2 : ¬ l.length ≤ fnd l s := by omega
    generalize slk l (fnd l s) = V at *
    generalize fnd l s = F at *
    change ∀ W (h : Below w.heap.size w W), _ at c3
    have hge : gI (ear l) F = (ear l)[F]?.getD 0 := rfl
    have hgl : gI (latP l) F = (latP l)[F]?.getD 0 := rfl
    rw [hge, hgl] at hse
    rw [hge] at hb1
    rw [hgl] at hb3
    have hwr : wrap64 ((latP l)[F]?.getD 0 - (ear l)[F]?.getD 0) = (latP l)[F]?.getD 0 - (ear l)[F]?.getD 0 := IntWalk.wrap64_in _ ⟨by omega, by omega⟩
    have HV := Lib.hid hse
    have HF := Lib.hid hF
    have C1 := Lib.hid c1
    have C3 := Lib.hid c3
    have C4 := Lib.hid c4
    clear c1 c3 c4 hx h0 hv hn hc hse hF hb1 hb2 hb3 hge hgl hS hP hol
    go_enter Try.func36, Try.ntmps36
    go_wp2_with fail
    refine C1.out.mono ?_
    rintro e W1 ⟨rfl, hb⟩
    have HB1 := Lib.hid hb
    clear hb
    go_wp2_with fail
    refine wp_region_mix (by kernel_rfl) (by kernel_rfl) ?_
    refine wpC_take (f := 9) (by kernel_rfl) (by kernel_rfl) ⟨⟨_, (Below.refl _ _).drew⟩, rfl⟩ [0, 2, 5, 7] _ _ (by kernel_rfl) ?_
    simp only [List.map_cons, List.map_nil, List.getElem?_toArray, List.getElem?_cons_succ, List.getElem?_cons_zero, Option.getD_some]
    repeat (go_big_quiet_step (fail))
    refine wpQuiet_nil ?_
    have hB : Below W1.heap.size W1 W1.drew := (Below.refl _ _).drew
    refine wpC_all (rs := [1]) (by kernel_rfl) (by decide) ?_
    intro i hi
    simp only [List.mem_cons, List.not_mem_nil, or_false] at hi
    subst hi
    refine ⟨_, rfl, ?_⟩
    go_simp
    refine (C4.out _ (HB1.out.trans (hB.mono HB1.out.size))).mono ?_
    rintro e WW0 ⟨⟨v9, rfl, ho9⟩, hb9⟩
    obtain ⟨A1, k1, rfl, _, _, hL, hg9⟩ := own_ints ho9
    obtain ⟨b1, off1, e1, _, d1⟩ := hL.at_ F HF.out
    subst e1
    clear d1
    replace hB := below_step hB hb9
    clear hb9 ho9 hg9
    refine ⟨⟨⟨_, hB⟩, rfl⟩, ?_⟩
    go_simp
    refine wpC_take (f := 7) (by kernel_rfl) (by kernel_rfl) ⟨⟨_, hB⟩, rfl⟩ [3] _ _ (by kernel_rfl) ?_
    simp only [List.map_cons, List.map_nil, List.getElem?_toArray, List.getElem?_cons_succ, List.getElem?_cons_zero, Option.getD_some]
    repeat (go_big_quiet_step (fail))
    refine wpQuiet_nil ?_
    refine wpC_all (rs := [4, 6]) (by kernel_rfl) (by decide) ?_
    intro i hi
    simp only [List.mem_cons, List.not_mem_nil, or_false] at hi
    rcases hi with rfl | rfl
    · obtain ⟨b9, off9, e9, _, d9⟩ := hL.at_ F HF.out
      injection e9 with e9
      injection e9 with q1 q2
      subst q1 q2
      refine ⟨_, rfl, ?_⟩
      go_simp
      obtain ⟨WW1, hWk⟩ : ∃ q, q = WW0 := ⟨_, rfl⟩
      rw [← hWk] at hB hL ⊢
      clear d9 hWk
      refine ⟨⟨⟨_, hB⟩, rfl⟩, ?_⟩
      refine wpC_all (rs := [6]) (by kernel_rfl) (by decide) ?_
      intro i hi
      simp only [List.mem_cons, List.not_mem_nil, or_false] at hi
      subst hi
      refine ⟨_, rfl, ?_⟩
      go_simp
      refine (C3.out _ (HB1.out.trans (hB.mono HB1.out.size))).mono ?_
      rintro e WW2 ⟨⟨v9, rfl, ho9⟩, hb9⟩
      obtain ⟨A2, k2, rfl, _, _, hE, hg9⟩ := own_ints ho9
      obtain ⟨b6, off6, e6, _, d6⟩ := hE.at_ F HF.out
      subst e6
      clear d6
      replace hB := below_step hB hb9
      replace hL := (hL.below hb9).more hb9.size
      clear hb9 ho9 hg9
      refine ⟨⟨⟨_, hB⟩, rfl⟩, ?_⟩
      go_simp
      refine wpC_take (f := 4) (by kernel_rfl) (by kernel_rfl) ⟨⟨_, hB⟩, rfl⟩ [8] _ _ (by kernel_rfl) ?_
      simp only [List.map_cons, List.map_nil, List.getElem?_toArray, List.getElem?_cons_succ, List.getElem?_cons_zero, Option.getD_some]
      repeat (go_big_quiet_step (fail))
      refine wpQuiet_nil ?_
      refine wpC_all (rs := [9]) (by kernel_rfl) (by decide) ?_
      intro i hi
      simp only [List.mem_cons, List.not_mem_nil, or_false] at hi
      subst hi
      obtain ⟨b9, off9, e9, _, d9⟩ := hE.at_ F HF.out
      injection e9 with e9
      injection e9 with q1 q2
      subst q1 q2
      refine ⟨_, rfl, ?_⟩
      go_simp
      obtain ⟨WW3, hWk⟩ : ∃ q, q = WW2 := ⟨_, rfl⟩
      rw [← hWk] at hB hL hE ⊢
      clear d9 hWk
      refine ⟨⟨⟨_, hB⟩, rfl⟩, ?_⟩
      refine wpC_take (f := 0) (by kernel_rfl) (by kernel_rfl) ⟨⟨_, hB⟩, rfl⟩ [10, 11, 12] _ _ (by kernel_rfl) ?_
      simp only [List.map_cons, List.map_nil, List.getElem?_toArray, List.getElem?_cons_succ, List.getElem?_cons_zero, Option.getD_some]
      repeat (go_big_quiet_step (fail))
      refine wpQuiet_nil ?_
      refine wpC_done (by kernel_rfl) ?_
      have HFIN := Lib.hid (HB1.out.trans (hB.mono HB1.out.size))
      clear hB hE hL
      go_wp2
      go_ret2
      first | exact ⟨ret1 (by rw [HV.out]; rfl), HFIN.out⟩ | exact ⟨ret1 (by rw [← HV.out]), HFIN.out⟩
    · refine ⟨_, rfl, ?_⟩
      go_simp
      refine (C3.out _ (HB1.out.trans (hB.mono HB1.out.size))).mono ?_
      rintro e WW1 ⟨⟨v9, rfl, ho9⟩, hb9⟩
      obtain ⟨A2, k2, rfl, _, _, hE, hg9⟩ := own_ints ho9
      obtain ⟨b6, off6, e6, _, d6⟩ := hE.at_ F HF.out
      subst e6
      clear d6
      replace hB := below_step hB hb9
      replace hL := (hL.below hb9).more hb9.size
      clear hb9 ho9 hg9
      refine ⟨⟨⟨_, hB⟩, rfl⟩, ?_⟩
      go_simp
      refine wpC_take (f := 5) (by kernel_rfl) (by kernel_rfl) ⟨⟨_, hB⟩, rfl⟩ [8] _ _ (by kernel_rfl) ?_
      simp only [List.map_cons, List.map_nil, List.getElem?_toArray, List.getElem?_cons_succ, List.getElem?_cons_zero, Option.getD_some]
      repeat (go_big_quiet_step (fail))
      refine wpQuiet_nil ?_
      refine wpC_all (rs := [4, 9]) (by kernel_rfl) (by decide) ?_
      intro i hi
      simp only [List.mem_cons, List.not_mem_nil, or_false] at hi
      rcases hi with rfl | rfl
      · obtain ⟨b9, off9, e9, _, d9⟩ := hL.at_ F HF.out
        injection e9 with e9
        injection e9 with q1 q2
        subst q1 q2
        refine ⟨_, rfl, ?_⟩
        go_simp
        obtain ⟨WW2, hWk⟩ : ∃ q, q = WW1 := ⟨_, rfl⟩
        rw [← hWk] at hB hL hE ⊢
        clear d9 hWk
        refine ⟨⟨⟨_, hB⟩, rfl⟩, ?_⟩
        refine wpC_all (rs := [9]) (by kernel_rfl) (by decide) ?_
        intro i hi
        simp only [List.mem_cons, List.not_mem_nil, or_false] at hi
        subst hi
        obtain ⟨b9, off9, e9, _, d9⟩ := hE.at_ F HF.out
        injection e9 with e9
        injection e9 with q1 q2
        subst q1 q2
        refine ⟨_, rfl, ?_⟩
        go_simp
        obtain ⟨WW3, hWk⟩ : ∃ q, q = WW2 := ⟨_, rfl⟩
        rw [← hWk] at hB hL hE ⊢
        clear d9 hWk
        refine ⟨⟨⟨_, hB⟩, rfl⟩, ?_⟩
        refine wpC_take (f := 0) (by kernel_rfl) (by kernel_rfl) ⟨⟨_, hB⟩, rfl⟩ [10, 11, 12] _ _ (by kernel_rfl) ?_
        simp only [List.map_cons, List.map_nil, List.getElem?_toArray, List.getElem?_cons_succ, List.getElem?_cons_zero, Option.getD_some]
        repeat (go_big_quiet_step (fail))
        refine wpQuiet_nil ?_
        refine wpC_done (by kernel_rfl) ?_
        have HFIN := Lib.hid (HB1.out.trans (hB.mono HB1.out.size))
        clear hB hE hL
        go_wp2
        go_ret2
        first | exact ⟨ret1 (by rw [HV.out]; rfl), HFIN.out⟩ | exact ⟨ret1 (by rw [← HV.out]), HFIN.out⟩
      · obtain ⟨b9, off9, e9, _, d9⟩ := hE.at_ F HF.out
        injection e9 with e9
        injection e9 with q1 q2
        subst q1 q2
        refine ⟨_, rfl, ?_⟩
        go_simp
        obtain ⟨WW2, hWk⟩ : ∃ q, q = WW1 := ⟨_, rfl⟩
        rw [← hWk] at hB hL hE ⊢
        clear d9 hWk
        refine ⟨⟨⟨_, hB⟩, rfl⟩, ?_⟩
        refine wpC_all (rs := [4]) (by kernel_rfl) (by decide) ?_
        intro i hi
        simp only [List.mem_cons, List.not_mem_nil, or_false] at hi
        subst hi
        obtain ⟨b9, off9, e9, _, d9⟩ := hL.at_ F HF.out
        injection e9 with e9
        injection e9 with q1 q2
        subst q1 q2
        refine ⟨_, rfl, ?_⟩
        go_simp
        obtain ⟨WW3, hWk⟩ : ∃ q, q = WW2 := ⟨_, rfl⟩
        rw [← hWk] at hB hL hE ⊢
        clear d9 hWk
        refine ⟨⟨⟨_, hB⟩, rfl⟩, ?_⟩
        refine wpC_take (f := 0) (by kernel_rfl) (by kernel_rfl) ⟨⟨_, hB⟩, rfl⟩ [10, 11, 12] _ _ (by kernel_rfl) ?_
        simp only [List.map_cons, List.map_nil, List.getElem?_toArray, List.getElem?_cons_succ, List.getElem?_cons_zero, Option.getD_some]
        repeat (go_big_quiet_step (fail))
        refine wpQuiet_nil ?_
        refine wpC_done (by kernel_rfl) ?_
        have HFIN := Lib.hid (HB1.out.trans (hB.mono HB1.out.size))
        clear hB hE hL
        go_wp2
        go_ret2
        first | exact ⟨ret1 (by rw [HV.out]; rfl), HFIN.out⟩ | exact ⟨ret1 (by rw [← HV.out]), HFIN.out⟩
  · have hv : slkV l s = 0 := if_neg h0
    rw [hv]
    have hne : (nmE l s == 0) = false := by simpa using h0
    generalize nmE l s = E at *
    have C1 := Lib.hid c1
    clear c1 hx h0 hv
    go_enter Try.func36, Try.ntmps36
    go_wp2_with fail
    refine C1.out.mono ?_
    rintro e w1 ⟨rfl, hb⟩
    have hB_w1 : Below w.heap.size w w1 := (by repeat (first | exact Below.refl _ _ | assumption | refine Below.setCell ?_ (by first | (simp; done) | (simp; omega) | omega) _ | refine Below.drew ?_ | refine below_drewN ?_ _ | refine Below.alloc ?_ (by first | (simp; done) | (simp; omega) | omega) _ | refine below_alloc ?_ _ | refine below_step ?_ (by assumption))); have hz_w1 := hB_w1.size; clear hb
    go_wp2
    go_ret2
    exact ⟨rfl, (by repeat (first | exact Below.refl _ _ | assumption | refine Below.setCell ?_ (by first | (simp; done) | (simp; omega) | omega) _ | refine Below.drew ?_ | refine below_drewN ?_ _ | refine Below.alloc ?_ (by first | (simp; done) | (simp; omega) | omega) _ | refine below_alloc ?_ _ | refine below_step ?_ (by assumption)))⟩
end Go.Proofs.Ytgijekhlbkfanaa

namespace Go.Proofs.Ytgijekhlbkfanaa
open Go.RowKit Go.Maps
attribute [local go_sem] Later.cell Same.cell

/-- m[k] = v as one operation. -/
theorem wp_mapv_put {κ ε : Type} [DecidableEq κ] {P : Program} {k e : TypeId} {kl : κ → Lit} {el : ε → Lit} {z : ε} {w : World} {b n : Nat} {M : κ → Option ε} {o : Oper} {a : Act} {K' : Act → World → Prop} {Q : Exit → Act → World → Prop}
    (m x v : Operand) (t : TypeId) (hop : o.op = Op.mapUpdate t m x v) (K : Keyed P k) (ht : P.underlying t = some (.map k e))
    (hinj : ∀ q q', kl q = kl q' → q = q') (hkl : ∀ q, WideAt.IsKeyLit (kl q)) (hm : a.eval m = .map (some b)) (hown : MapV P k e kl el z w b n M) (hn : n < maxLen) (q : κ) (c : ε) (key val : Value) (hx : a.eval x = key) (hv : a.eval v = val)
    (hkey : keyOf P k key = some (kl q)) (hval : plainElem (H := Unit) P e val = some (.lit (el c), []))
    (hK : ∀ w', MapV P k e kl el z w' b (n + 1) (upd M q c) → w.grownBy w' (some b) → K' (a.put o.dst undef) w') :
    Oper.wp P o a w K' Q := by
  obtain ⟨D, h1, h2, h3, h4⟩ := hown
  obtain ⟨w', hrun, r1, r2⟩ := h1.update K ht hn hkey hval
  unfold Oper.wp
  simp [execOp, hop, hm, hx, hv, hrun, Result.andThen]
  refine hK w' ⟨_, r1, h2.put _ _, fun q' => ?_, fun q' => ?_⟩ r2
  · by_cases hq : q' = q
    · subst hq; rw [has_put_same h2 (hkl _), upd_same]; rfl
    · rw [has_put_other (fun h => hq (hinj _ _ h)), upd_other hq]; exact h3 q'
  · by_cases hq : q' = q
    · subst hq; rw [atKey_put_same h2 (hkl _), upd_same]; rfl
    · rw [atKey_put_other (fun h => hq (hinj _ _ h)), upd_other hq]; exact h4 q'
set_option maxHeartbeats 1000000 in
theorem waits1_any (s : ByteArray) (B mb n : Nat) (M : ByteArray → Option Bool) (w : World) (hs : s.size ≤ 9223372036854775807) (hc : w.cell? ⟨B, 0, none⟩ = some (.map (some mb))) (hM : MapS w mb n M) :
    Calls Try.prog 81 #[.string s, .pointer (some ⟨B, 0, none⟩)] w fun e w' => e = .returned (.bool ((M s).getD false)) ∧ w = w' := by
  have HM := Lib.hid hM
  have HS := Lib.hid hs
  clear hM
  go_enter Try.func81, Try.ntmps81
  go_wp2_with (at_lookup; refine wpList_mapv_bool rfl (.tmp 4) (.tmp 5) 70 rfl lawS Try.underlying70 underBo (zeroBo _) rfl HM.out s _ rfl (keyS HS.out) ?_)
  go_ret
  exact ⟨rfl, rfl⟩
/-- What the first loop keeps. -/
def WaR (l : List Tk) (s : ByteArray) (w : World) (mb B g cap : Nat) (k' : Value) (W : World) : Prop := ∃ k : Nat, k ≤ l.length ∧ k' = .int .i64 (k : Int) ∧ Hid (MapS W mb (k + 1) (wmK l s k)) ∧ Hid (W.cell? ⟨B, 0, none⟩ = some (.map (some mb))) ∧ Hid (W.ownsRow w.heap.size 3 1 (.slice (some ⟨g, 0, none⟩) l.length cap) l.length (icells (iN (ord l)))) ∧ Below w.heap.size w W
theorem WaR.mk {l : List Tk} {s : ByteArray} {w : World} {mb B g cap : Nat} {k' : Value} {W : World} (k : Nat) (h1 : k ≤ l.length) (h2 : k' = .int .i64 (k : Int)) (h3 : Hid (MapS W mb (k + 1) (wmK l s k))) (h4 : Hid (W.cell? ⟨B, 0, none⟩ = some (.map (some mb)))) (h5 : Hid (W.ownsRow w.heap.size 3 1 (.slice (some ⟨g, 0, none⟩) l.length cap) l.length (icells (iN (ord l))))) (h6 : Below w.heap.size w W) : WaR l s w mb B g cap k' W := ⟨k, h1, h2, h3, h4, h5, h6⟩
def WbR (l : List Tk) (i : Nat) (w : World) (v k' : Value) (W : World) : Prop := ∃ k : Nat, k ≤ l.length ∧ k' = .int .i64 (k : Int) ∧ Hid (W.ownsRow w.heap.size 3 1 v (wtT l i k).length (icells (iN (wtT l i k)))) ∧ Below w.heap.size w W
theorem WbR.mk {l : List Tk} {i : Nat} {w : World} {v k' : Value} {W : World} (k : Nat) (h1 : k ≤ l.length) (h2 : k' = .int .i64 (k : Int)) (h3 : Hid (W.ownsRow w.heap.size 3 1 v (wtT l i k).length (icells (iN (wtT l i k))))) (h4 : Below w.heap.size w W) : WbR l i w v k' W := ⟨k, h1, h2, h3, h4⟩
set_option maxRecDepth 20000 in
set_option maxHeartbeats 16000000 in
theorem Waits_any (A : Option Addr) (len cap : Nat) (l : List Tk) (s : ByteArray) (w : World) (hS : Sml l) (hs : s.size ≤ 9223372036854775807) (hx : Plan w w.heap.size A len l) :
    Calls Try.prog 37 #[.slice A len cap, .string s] w fun e w' => (∃ v, e = .returned (.tuple #[v, .int .i64 (nmE l s)]) ∧ w'.ownsRow w.heap.size 3 1 v (wtX l s).length (icells (iN (wtX l s)))) ∧ Below w.heap.size w w' := by
  obtain rfl : l.length = len := hx.1
  have c1 := named_any A l.length cap l s w hS hs hx
  by_cases h0 : nmE l s = 0
  · have hv : wtX l s = wtL l (fnd l s) := if_pos h0
    have hc : checkE l = 0 ∧ fnd l s < l.length := by
      rcases nm_cases l s with ⟨a, b, -⟩ | ⟨-, -, a, -⟩ | ⟨a, b, -⟩
      · exact ⟨a, b⟩
      · rw [h0] at a; cases a
      · rw [h0] at b; exact absurd b.symm a
    have hP := check_spec hc.1
    have hL := hP.len
    have hol := hP.all
    have hmm := @run_makeMap Try.prog
    have hmf : ∀ (fn : Fn) (first cap : Array Value) (w : World), (Instr.makeFunc fn first cap).run Try.prog w = .ok (.func fn first cap) w := fun _ _ _ _ => rfl
    have c3 := fun W (h : Below w.heap.size w W) => order_any A l.length cap l W hS hP.names (hx.go h)
    rw [hol] at c3
    obtain ⟨j0, hj, hy0, hy1, hy2⟩ := info_parts jinfo_int
    have hI0 := Lib.hid hj
    have hI1 := Lib.hid hy0
    have hI2 := Lib.hid hy1
    have hI3 := Lib.hid hy2
    have hwe := fun j (hj : j < l.length) => wm_end hP hc.2 hj
    rw [fnd_at hc.2] at hwe
    rw [h0] at c1 ⊢
    rw [hv]
    generalize nmV l s = NV at *
    generalize fnd l s = F at *
    have HWE := Lib.hid hwe
    have HSZ := Lib.hid hs
    have HX := Lib.hid hx
    have HS := Lib.hid hS
    have HP := Lib.hid hP
    have C1 := Lib.hid c1
    have C3 := Lib.hid c3
    have HOL := Lib.hid hol
    clear c1 c3 hx h0 hc hv hS hP hol hj hy0 hy1 hy2 hs hwe
    go_enter Try.func37, Try.ntmps37
    go_wp2_with fail
    refine C1.out.mono ?_
    rintro e w1 ⟨rfl, hb⟩
    have HB1 := Lib.hid hb
    have HM0 : Hid (MapS (w1.alloc (.map #[] 0)) w1.heap.size 0 (fun _ => none)) := Lib.hid (mapv_made w1 Try.prog 9 4 slit blit false)
    have hs1 := hb.size
    clear hb
    go_wp2_with (refine wpList_mapv_ins (κ := ByteArray) (M := fun _ => none) rfl (.tmp 23) (.tmp 24) (.const (.bool true)) 70 rfl lawS Try.underlying70 (fun _ _ => slit_inj) (fun _ => trivial) rfl HM0.out (by unfold maxLen; omega) s true _ _ rfl rfl (keyS HSZ.out) (plainElem_bool underBo true) ?_; intro w2 hM1 hg1)
    obtain ⟨W3, hW3⟩ : ∃ W3, W3 = w2.alloc (.cells #[.map (some w1.heap.size)] 70) := ⟨_, rfl⟩
    have hB2 : Below w.heap.size w w2 := HB1.out.trans (((Below.refl w.heap.size w1).alloc hs1 _).trans (grown_below hg1 (by simp; omega) (fun q hq => by injection hq; omega)))
    have hB3 : Below w.heap.size w W3 := by rw [hW3]; exact hB2.alloc hB2.size _
    have hbx : W3.cell? ⟨w2.heap.size, 0, none⟩ = some (.map (some w1.heap.size)) := by rw [hW3]; exact (Boxed.new w2 _ _).cell
    have hM3 : MapS W3 w1.heap.size 1 (wm0 s) := by rw [hW3]; exact hM1.alloc _
    have hlt2 : w1.heap.size < w2.heap.size := hM1.lt
    have hlt3 : w2.heap.size < W3.heap.size := by rw [hW3]; simp
    obtain ⟨mb, hmb⟩ : ∃ mb, mb = w1.heap.size := ⟨_, rfl⟩
    obtain ⟨B, hBB⟩ : ∃ B, B = w2.heap.size := ⟨_, rfl⟩
    rw [← hmb, ← hBB] at hbx
    rw [← hmb] at hM3 hs1
    rw [← hmb, ← hBB] at hlt2
    rw [← hBB] at hlt3
    have HB3 := Lib.hid hB3
    have HBX := Lib.hid hbx
    have HM3 := Lib.hid hM3
    rw [← hW3]
    rw [← hmb, ← hBB]
    clear hW3 hmb hBB hB2 hB3 hbx hM3 hM1 hg1 HM0 HB1 hmm
    refine (C3.out _ HB3.out).mono ?_
    rintro e w4 ⟨⟨v4, rfl, ho4⟩, hb4⟩
    obtain ⟨A4, cap4, rfl, hq1, hq2, hI4, hg4⟩ := own_ints ho4
    obtain ⟨g, rfl, -, -⟩ := hg4 HP.out.pos
    have hs34 := hb4.size
    have HO4 := Lib.hid (jown_mono ho4 HB3.out.size)
    have HB4 := Lib.hid (HB3.out.trans (hb4.mono HB3.out.size))
    have HBX4 : Hid (w4.cell? ⟨B, 0, none⟩ = some (.map (some mb))) := Lib.hid ((hb4.cell (p := ⟨B, 0, none⟩) hlt3).trans HBX.out)
    have HM4 : Hid (MapS w4 mb 1 (wm0 s)) := Lib.hid (HM3.out.below hb4)
    clear ho4 hb4 hI4 hg4 HBX HM3 HB3
    go_wp2
    go_loopw [29] (fun i W => WaR l s w mb B g cap4 i W) (fun i _ => l.length - (intOf i).toNat)
    case atStart => exact WaR.mk 0 (Nat.zero_le _) rfl HM4 HBX4 HO4 HB4.out
    case round =>
      obtain ⟨k, hk, rfl, HM, HBX, HO, hB⟩ := hrel
      have hbs := hB.size
      by_cases hlt : k < l.length
      · have hko : k < (ord l).length := by rw [HOL.out]; exact hlt
        have hil : (ord l)[k] < l.length := ord_lt (List.getElem_mem hko)
        have hnx := wmK_next (l := l) (s := s) hko
        obtain ⟨hgl, hgb, hgc, -⟩ := jown_at HO.out
        have hck := hgc k hlt
        rw [iN_at hko] at hck
        generalize (ord l)[k] = i at *
        obtain ⟨b, off, rfl, hb0, hcn, -, -, A', n, cc, hca, hn1, hn2, hSt⟩ := (HX.out.below hB).at_ i hil
        have hbr : b < wr.heap.size := by omega
        have hBl := World.block_lt_of_cell? wr _ HBX.out
        change B < _ at hBl
        have hnz := HS.out.nm i hil
        have c4 := ContWaits_any B (fun t => (wmK l s k t).getD false) A' n cc (tkA l i).af wr (by omega) (hSt.more hbs) (fun t ht W hb => waits1_any t B mb (k + 1) (wmK l s k) W (HS.out.an i hil t ht) ((hb.cell (p := ⟨B, 0, none⟩) hBl).trans HBX.out) (HM.out.below hb))
        change Calls _ _ _ _ (fun e w' => e = .returned (.bool (wmC l (wmK l s k) i)) ∧ _) at c4
        unfold wmS at hnx
        generalize (tkA l i).nm = X at *
        generalize hMk : wmK l s k = M at *
        have hk1 : (k : Int) < l.length := by omega
        have hk2 : ¬ l.length ≤ k := by omega
        have hi1 : (i : Int) < l.length := by omega
        have hi2 : ¬ l.length ≤ i := by omega
        have HSX := Lib.hid hnz
        have hckx := hcn
        change wr.cell? _ = some (.string X) at hckx
        cases hcc : wmC l M i
        · rw [hcc] at c4 hnx
          have C4 := Lib.hid c4
          have HNX := Lib.hid hnx
          have HM' : Hid (MapS wr mb (k + 1) M) := HM
          have HMK := Lib.hid hMk
          clear c4 hnx hSt hcn hcc HM hMk hgl hgb hgc
          go_wp2_with fail
          refine C4.out.mono ?_
          rintro e w5 ⟨rfl, rfl⟩
          go_wp2
          go_roundw
          case rel => exact WaR.mk (k + 1) (by omega) (by go_num) (Lib.hid (by rw [HNX.out]; simp only [Bool.false_eq_true, if_false]; exact HM'.out.mono (by omega))) HBX HO hB
          case measure => simp [intOf]; omega
        · rw [hcc] at c4 hnx
          have C4 := Lib.hid c4
          have HNX := Lib.hid hnx
          have HM' : Hid (MapS wr mb (k + 1) M) := HM
          have HMK := Lib.hid hMk
          have HB := Lib.hid hB
          have hbxw := HBX.out
          clear c4 hnx hSt hcn hcc HM hMk hgl hgb hgc hB
          go_wp2_with fail
          refine C4.out.mono ?_
          rintro e w5 ⟨rfl, rfl⟩
          go_wp2_with fail
          (refine wp_region_tail 6 (by kernel_rfl) (by kernel_rfl) ?_; simp only [List.take_succ_cons, List.take_zero, List.drop_succ_cons, List.drop_zero]; (repeat (go_big_quiet_step ((fail)))); refine wpQuiet_nil ?_)
          have hbd : Below wr.heap.size wr wr.drew := (Below.refl _ _).drew
          have HMd := Lib.hid (HM'.out.below hbd)
          have HOd := Lib.hid (jown_later HO.out hbd)
          have hbxd : wr.drew.cell? ⟨B, 0, none⟩ = some (.map (some mb)) := (hbd.cell (p := ⟨B, 0, none⟩) hBl).trans HBX.out
          have HBd := Lib.hid (HB.out.trans (hbd.mono hbs))
          have hsd : w.heap.size ≤ wr.drew.heap.size := by simpa using hbs
          generalize wr.drew = W5 at *
          have HBXd := Lib.hid hbxd
          clear hbd hbxd
          go_wp2_with (at_mapUpdate; refine wpList_mapv_put (κ := ByteArray) rfl (.tmp 40) (.tmp 45) (.const (.bool true)) 70 rfl lawS Try.underlying70 (fun _ _ => slit_inj) (fun _ => trivial) rfl HMd.out (by unfold maxLen; omega) X true _ _ rfl rfl (keyS HSX.out) (plainElem_bool underBo true) ?_; intro w6 hM6 hg6; go_frame)
          have hne6 : B ≠ mb := by omega
          have HO6 := Lib.hid (HOd.out.kept hg6 (.inr (Ne.symm (own_not_map HOd.out HMd.out))))
          have HBX6 := Lib.hid (hg6.cell HBXd.out (by intro e; injection e with e; exact hne6 e))
          have hB6 : Below w.heap.size w w6 := HBd.out.trans (grown_below hg6 hsd (fun q hq => by injection hq; omega))
          have HM6 := Lib.hid hM6
          clear hM6 hg6 HMd HOd HBXd
          go_wp2
          go_roundw
          case rel => exact WaR.mk (k + 1) (by omega) (by go_num) (Lib.hid (by rw [HNX.out]; simp only [if_true]; exact HM6.out)) HBX6 HO6 hB6
          case measure => simp [intOf]; omega
      · have hkl : k = l.length := by omega
        subst hkl
        have hend : wmK l s (ord l).length = wmK l s l.length := by rw [HOL.out]
        have hwe := HWE.out
        rw [hend] at hwe
        generalize wmK l s l.length = M at *
        have hk1 : ¬ (l.length : Int) < l.length := by omega
        have hbxw := HBX.out
        have HBw := Lib.hid hB
        have HWE2 := Lib.hid hwe
        clear hwe hend hB HWE
        go_wp2_with (at_delete; refine wpList_mapv_del (κ := ByteArray) rfl (.tmp 47) (.tmp 48) 70 rfl lawS Try.underlying70 (fun _ _ => slit_inj) rfl HM.out s _ rfl (keyS HSZ.out) ?_; intro w6 hM6 hg6)
        have hg7 := hg6.grown
        have HB6 := Lib.hid (HBw.out.trans (grown_below hg7 hbs (fun q hq => by injection hq; omega)))
        have HBX6 := Lib.hid (hg7.cell HBX.out (by intro e; injection e with e; have : B ≠ mb := by omega
                                                   exact this e))
        have HM6 := Lib.hid hM6
        have hml := hM6.lt
        have hBl := World.block_lt_of_cell? w6 _ HBX6.out
        change B < _ at hBl
        have hs6 := HB6.out.size
        clear hM6 hg6 hg7 HM HBX HO HBw hbxw HM4 HBX4 HO4 HB4
        go_loopw [11, 51] (fun v i W => WbR l F w6 v i W) (fun _ i _ => l.length - (intOf i).toNat)
        case atStart => exact WbR.mk 0 (Nat.zero_le _) rfl (Lib.hid (World.ownsRow_nil _ _ _ _)) (Below.refl _ _)
        case round =>
          obtain ⟨k, hk, rfl, HO, hB⟩ := hrel
          have hbs2 := hB.size
          obtain ⟨A1, cap1, rfl, hq1, hq2, -, -⟩ := own_ints HO.out
          have hwl := wtT_len (l := l) (i := F) (k := k)
          by_cases hlt : k < l.length
          · obtain ⟨b, off, rfl, hb0, hc1, hc2, hc3, A', n, cc, hc4, -, -, -⟩ := (HX.out.below (HB6.out.trans (hB.mono hs6))).at_ k hlt
            have hbr : b < wr.heap.size := by omega
            have hk1 : (k : Int) < l.length := by omega
            have hk2 : ¬ l.length ≤ k := by omega
            have hnz := HS.out.nm k hlt
            have hwk := HWE2.out k hlt
            have hnx := wtT_next (l := l) (i := F) (k := k)
            generalize (tkA l k).nm = X at *
            generalize (tkA l k).dy = Y at *
            generalize (tkA l k).mn = Z at *
            have HSX := Lib.hid hnz
            have hBw : Below w6.heap.size w6 (wr.alloc (.cells #[.string X, .int .i64 Y, .int .i64 Z, .slice A' n cc] 43)) := hB.alloc hbs2 _
            have HBW := Lib.hid hBw
            have HM1 := Lib.hid (HM6.out.below hBw)
            have hbx1 := (hBw.cell (p := ⟨B, 0, none⟩) hBl).trans HBX6.out
            have HO1 := Lib.hid (HO.out.alloc (.cells #[.string X, .int .i64 Y, .int .i64 Z, .slice A' n cc] 43))
            have HWK := Lib.hid hwk
            clear hnz hwk hBw HO
            cases hR : wtR l F k
            · rw [hR] at hnx
              have HNX := Lib.hid hnx
              have HR := Lib.hid hR
              clear hR hnx
              go_wp2_with (at_lookup; refine wpList_mapv_bool rfl (.tmp 56) (.tmp 58) 70 rfl lawS Try.underlying70 underBo (zeroBo _) rfl HM1.out X _ rfl (keyS HSX.out) ?_; rw [HWK.out, HR.out])
              go_roundw
              case rel => exact WbR.mk (k + 1) (by omega) (by go_num) (Lib.hid (by rw [HNX.out]; exact HO1.out)) HBW.out
              case measure => simp [intOf]; omega
            · rw [hR] at hnx
              have HNX := Lib.hid hnx
              have HR := Lib.hid hR
              clear hR hnx
              go_wp2_with (first | (at_lookup; refine wpList_mapv_bool rfl (.tmp 56) (.tmp 58) 70 rfl lawS Try.underlying70 underBo (zeroBo _) rfl HM1.out X _ rfl (keyS HSX.out) ?_; rw [HWK.out, HR.out]) | (at_builtin; go_loud (refine wpList_append_own _ rfl (.tmp 60) (.tmp 62) 32 rfl w6.heap.size 3 j0 (.int .i64 0) 1 8 Try.underlying32 hI0.out hI1.out hI2.out hI3.out rfl (by decide) _ _ _ rfl (HO1.out.alloc _) ⟨wr.heap.size + 1, 0, none⟩ 1 1 [.int .i64 (k : Int)] rfl rfl (by have := jnews1 (wr.alloc (.cells #[.string X, .int .i64 Y, .int .i64 Z, .slice A' n cc] 43)) (.int .i64 (k : Int)) 3; simpa using this) (jone1 _) (by unfold maxLen; omega) (by omega) (by simp; omega) ?_); intro v8 w8 hown8 hgrow8 _))
              have hb9 := (HBW.out.alloc (by simp; omega) (.cells #[.int .i64 (k : Int)] 3)).trans (grown_below hgrow8 (by simp; omega) (fun q hq => ((HO1.out.alloc (.cells #[.int .i64 (k : Int)] 3)).lt q hq).1))
              have HR2 : Hid (w8.ownsRow w6.heap.size 3 1 v8 (wtT l F (k + 1)).length (icells (iN (wtT l F (k + 1))))) := Lib.hid (by
                rw [HNX.out]
                simp only [if_true, List.length_append, List.length_cons, List.length_nil, iN_app, icells_app]
                exact hown8)
              refine ⟨WbR.mk (k + 1) (by omega) (by go_num) HR2 hb9, ?_⟩
              simp [intOf]; omega
          · have hkl : k = l.length := by omega
            subst hkl
            have hk1 : ¬ (l.length : Int) < l.length := by omega
            have HR : Hid (wr.ownsRow w.heap.size 3 1 (.slice A1 (wtT l F l.length).length cap1) (wtL l F).length (icells (iN (wtL l F)))) := Lib.hid (jown_mono HO.out hs6)
            have HBF := Lib.hid (HB6.out.trans (hB.mono hs6))
            clear hB HO hwl
            go_wp2
            go_ret2
            exact ⟨⟨_, rfl, HR.out⟩, HBF.out⟩
  · have hne : (nmE l s == 0) = false := by simpa using h0
    have hE : wtX l s = [] := if_neg h0
    rw [hE]
    generalize nmE l s = E at *
    have C1 := Lib.hid c1
    clear c1 hx h0
    go_enter Try.func37, Try.ntmps37
    go_wp2_with fail
    refine C1.out.mono ?_
    rintro e w1 ⟨rfl, hb⟩
    have hb2 := Lib.hid hb
    clear hb
    go_wp2
    go_ret2
    exact ⟨⟨_, rfl, World.ownsRow_nil _ _ _ _⟩, hb2.out⟩
end Go.Proofs.Ytgijekhlbkfanaa

namespace Go.Proofs.Ytgijekhlbkfanaa
open Go.RowKit
attribute [local go_sem] Later.cell Same.cell

theorem jinfo_bool : (Try.prog.info? 4).map (fun i => (i.zero, i.size, i.bytes)) = some (some (.bool false), 1, 1) := by kernel_rfl
/-- The cells of a row of Bools. -/
def bcells (R : Nat → Bool) (n : Nat) : List Value := (List.range n).map fun j => .bool (R j)
theorem bcells_at {R : Nat → Bool} {n k : Nat} (h : k < n) : (bcells R n)[k]? = some (.bool (R k)) := by
  unfold bcells
  rw [List.getElem?_map, List.getElem?_range h]
  rfl
theorem bmade (n : Nat) : (madeCells (Value.bool false).cells (n * 1)).toList = bcells (fun _ => false) n := by
  apply List.ext_getElem?
  intro i
  by_cases hi : i < n
  · have e : (Value.bool false).cells = #[.bool false] := rfl
    rw [e, bcells_at hi]
    simp [madeCells, hi, Nat.mod_one]
  · unfold bcells
    simp [madeCells, hi]
theorem bcells_set {R : Nat → Bool} {n i : Nat} (hi : i < n) : (bcells R n).set i (.bool true) = bcells (fun q => R q || decide (q = i)) n := by
  apply List.ext_getElem?
  intro k
  rw [List.getElem?_set]
  by_cases hk : k < n
  · rw [bcells_at hk, bcells_at hk]
    by_cases hik : i = k
    · subst hik
      simp [bcells, hi]
    · rw [if_neg hik, decide_eq_false (fun h => hik h.symm), Bool.or_false]
  · have h1 : (bcells R n)[k]? = none := List.getElem?_eq_none (by simp [bcells]; omega)
    have h2 : (bcells (fun q => R q || decide (q = i)) n)[k]? = none := List.getElem?_eq_none (by simp [bcells]; omega)
    rw [h1, h2]
    rw [if_neg (by omega)]
/-- A row of the call's own, any cells. -/
theorem vown_at {w : World} {base g n cap : Nat} {e : TypeId} {xs : List Value} (h : w.ownsRow base e 1 (.slice (some ⟨g, 0, none⟩) n cap) n xs) : g < w.heap.size ∧ base ≤ g ∧ (∀ k, k < n → w.cell? ⟨g, k, none⟩ = xs[k]?) ∧ ∀ k, w.frozen? ⟨g, k, none⟩ = false := by
  have hfr := fun k => h.frozenAt k
  refine ⟨?_, ?_, fun k hk => h.cellAt k (by omega), hfr⟩
  · rcases h.2 with ⟨h', _⟩ | ⟨g', cap', cur, h', hb, hg, _⟩
    · simp at h'
    · simp only [Value.slice.injEq, Option.some.injEq, Addr.mk.injEq, and_true, true_and] at h'
      obtain ⟨rfl, rfl⟩ := h'
      exact (Array.getElem?_eq_some_iff.1 hg).1
  · rcases h.2 with ⟨h', _⟩ | ⟨g', cap', cur, h', hb, hg, _⟩
    · simp at h'
    · simp only [Value.slice.injEq, Option.some.injEq, Addr.mk.injEq, and_true, true_and] at h'
      obtain ⟨rfl, rfl⟩ := h'
      exact hb
/-- One After of one task. -/
def wtJ (l : List Tk) (F : Nat) (R : Nat → Bool) (i j : Nat) : Nat → Bool := fun q => R q || (decide (q = i) && ((afs l i).take j).any fun a => decide (a = F) || R a)
theorem wtJ_zero (l : List Tk) (F : Nat) (R : Nat → Bool) (i : Nat) : wtJ l F R i 0 = R := by
  funext q
  unfold wtJ
  simp
theorem wtJ_end (l : List Tk) (F : Nat) (R : Nat → Bool) (i : Nat) : wtJ l F R i (afs l i).length = wtS l F R i := by
  unfold wtJ wtS
  rw [List.take_length]
theorem wtJ_next {l : List Tk} (h : okP l) {F i j : Nat} {R : Nat → Bool} (hi : i < l.length) (hj : j < (afs l i).length) :
    wtJ l F R i (j + 1) = (if decide ((afs l i)[j] = F) || wtJ l F R i j (afs l i)[j] then (fun q => wtJ l F R i j q || decide (q = i)) else wtJ l F R i j) ∧ wtJ l F R i j (afs l i)[j] = R (afs l i)[j] := by
  have hne : (afs l i)[j] ≠ i := fun e => afs_self h hi (by have := List.getElem_mem hj; rw [e] at this; exact this)
  have hr : wtJ l F R i j (afs l i)[j] = R (afs l i)[j] := by
    unfold wtJ
    rw [decide_eq_false hne, Bool.false_and, Bool.or_false]
  refine ⟨?_, hr⟩
  rw [hr]
  have ht : ((afs l i).take (j + 1)).any (fun a => decide (a = F) || R a) = (((afs l i).take j).any (fun a => decide (a = F) || R a) || (decide ((afs l i)[j] = F) || R (afs l i)[j])) := by
    rw [List.take_succ_eq_append_getElem hj, List.any_append]
    simp
  cases hc : decide ((afs l i)[j] = F) || R (afs l i)[j]
  · rw [if_neg (by decide)]
    funext q
    unfold wtJ
    rw [ht, hc, Bool.or_false]
  · rw [if_pos rfl]
    funext q
    unfold wtJ
    rw [ht, hc, Bool.or_true, Bool.and_true]
    cases R q <;> cases decide (q = i) <;> simp
structure RbR (l : List Tk) (w : World) (g : Nat) (A1 : Option Addr) (R : Nat → Bool) (W : World) : Prop where
  own : W.ownsRow w.heap.size 4 1 (.slice (some ⟨g, 0, none⟩) l.length l.length) l.length (bcells R l.length)
  ord : Ints W W.heap.size A1 l.length (iN (ord l))
  bel : Below w.heap.size w W
theorem RbR.store {l : List Tk} {w : World} {g : Nat} {A1 : Option Addr} {R : Nat → Bool} {W : World} (h : RbR l w g A1 R W) (hn : NB A1 g) (i : Nat) (hi : i < l.length) : RbR l w g A1 (fun q => R q || decide (q = i)) (W.setCell ⟨g, i, none⟩ (.bool true)) :=
  ⟨by have := (h.own.stored i (.bool true)).1; rw [bcells_set hi] at this; exact this, h.ord.store hn i _, h.bel.setCell (p := ⟨g, i, none⟩) (vown_at h.own).2.1 _⟩
theorem RbR.later {l : List Tk} {w : World} {g : Nat} {A1 : Option Addr} {R : Nat → Bool} {W W' : World} (h : RbR l w g A1 R W) (hb : Below W.heap.size W W') : RbR l w g A1 R W' :=
  ⟨jown_later h.own hb, h.ord.go hb, h.bel.trans (hb.mono h.bel.size)⟩
set_option maxRecDepth 20000 in
set_option maxHeartbeats 16000000 in
theorem rWaits_any (A : Option Addr) (len cap : Nat) (l : List Tk) (s : ByteArray) (w : World) (hS : Sml l) (hs : s.size ≤ 9223372036854775807) (hx : Plan w w.heap.size A len l) :
    Calls Try.prog 38 #[.slice A len cap, .string s] w fun e w' => (∃ v, e = .returned (.tuple #[v, .int .i64 (nmE l s)]) ∧ w'.ownsRow w.heap.size 3 1 v (wtX l s).length (icells (iN (wtX l s)))) ∧ Below w.heap.size w w' := by
  obtain rfl : l.length = len := hx.1
  have c1 := rnamed_any A l.length cap l s w hS hs hx
  by_cases h0 : nmE l s = 0
  · have hv : wtX l s = wtL l (fnd l s) := if_pos h0
    have hn : nmV l s = (fnd l s : Int) := by unfold nmV; rw [if_pos h0]
    have hc : checkE l = 0 ∧ fnd l s < l.length := by
      rcases nm_cases l s with ⟨a, b, -⟩ | ⟨-, -, a, -⟩ | ⟨a, b, -⟩
      · exact ⟨a, b⟩
      · rw [h0] at a; cases a
      · rw [h0] at b; exact absurd b.symm a
    have hP := check_spec hc.1
    have c2 := fun i W (h : Below w.heap.size w W) (hi : i < l.length) => afters_any A l.length cap l i W (by have := hP.len; omega) hi (by have := hP.few i hi; omega) (hx.go h)
    have haz : ∀ i, i < l.length → afZ l i = iN (afs l i) := fun i hi => afZ_afs (hP.known i hi)
    have c5 := fun W (h : Below w.heap.size w W) => rorder_any A l.length cap l W (by have := hP.len; omega) hP.names (fun i hi => by have := hP.few i hi; omega) (hx.go h)
    obtain ⟨j0, hj, hy0, hy1, hy2⟩ := info_parts jinfo_int
    have hI0 := Lib.hid hj
    have hI1 := Lib.hid hy0
    have hI2 := Lib.hid hy1
    have hI3 := Lib.hid hy2
    obtain ⟨k0, hkj, ky0, ky1, ky2⟩ := info_parts jinfo_bool
    have hJ0 := Lib.hid hkj
    have hJ1 := Lib.hid ky0
    have hJ2 := Lib.hid ky1
    have hJ3 := Lib.hid ky2
    have hL := hP.len
    have hFl := hc.2
    rw [hn, h0] at c1
    rw [h0, hv]
    generalize fnd l s = F at *
    have C1 := Lib.hid c1
    have C2 := Lib.hid c2
    have C5 := Lib.hid c5
    have HAZ := Lib.hid haz
    have HX := Lib.hid hx
    have HP := Lib.hid hP
    clear c1 c2 c5 hx hS hP hj hy0 hy1 hy2 hkj ky0 ky1 ky2 haz h0 hv hn hc hs
    go_enter Try.func38, Try.ntmps38
    go_wp2_with fail
    refine C1.out.mono ?_
    rintro e w1 ⟨rfl, hb⟩
    have HB1 := Lib.hid hb
    have hs1 := hb.size
    clear hb
    go_wp2_with (at_make; refine wpList_make_full _ rfl _ _ 75 rfl w1.heap.size 4 k0 (.bool false) 1 Try.underlying75 hJ0.out hJ1.out hJ2.out _ _ _ _ l.length rfl rfl (by omega) (by omega) (by rw [hJ3.out]; omega) (by unfold maxLen; omega) (Nat.le_refl _) ?_; intro w2 hown hgrow; go_frame)
    rw [bmade] at hown
    have hB2 : Below w1.heap.size w1 w2 := grown_below hgrow (Nat.le_refl _) (fun k hk => by cases hk)
    have HOW := Lib.hid hown
    have hg0 : w1.heap.size < w2.heap.size := (vown_at hown).1
    have HB2 := Lib.hid hB2
    clear hown hgrow hB2
    refine (C5.out _ (HB1.out.trans (HB2.out.mono hs1))).mono ?_
    rintro e w3 ⟨⟨v, rfl, ho⟩, hb⟩
    obtain ⟨A1, cap1, rfl, hq1, hq2, hI, -⟩ := own_ints ho
    have hol : (ord l).length = l.length := HP.out.all
    rw [hol] at ho hI hq1 ⊢
    have HNB := Lib.hid (NB.of_own ho hg0)
    have HE : Hid (RbR l w1 w1.heap.size A1 (wtK l F 0) w3) := Lib.hid ⟨jown_later HOW.out hb, hI, HB2.out.trans (hb.mono HB2.out.size)⟩
    clear ho hb HOW HB2 hI
    go_wp2
    go_loopw [10] (fun i W => ∃ k : Nat, k ≤ l.length ∧ i = .int .i64 k ∧ Hid (RbR l w1 w1.heap.size A1 (wtK l F k) W)) (fun i _ => l.length - (intOf i).toNat)
    case atStart => exact ⟨0, Nat.zero_le _, rfl, HE⟩
    case round =>
      obtain ⟨k, hk, rfl, HE⟩ := hrel
      have hbw := HE.out.bel
      by_cases hlt : k < l.length
      · have hko : k < (ord l).length := by omega
        have hil := ord_lt (List.getElem_mem hko)
        obtain ⟨b5, off5, rfl, hb5, hc5⟩ := HE.out.ord.at_ k hlt
        change wr.cell? _ = some (.int .i64 (gI (iN (ord l)) k)) at hc5
        rw [iN_at hko] at hc5
        have hfew := HP.out.few _ hil
        have hKn := wtK_next (i := F) hko
        have hEz := wtJ_zero l F (wtK l F k) (ord l)[k]
        have hEe := wtJ_end l F (wtK l F k) (ord l)[k]
        have hEn := fun j (h : j < (afs l (ord l)[k]).length) => wtJ_next HP.out (F := F) (R := wtK l F k) hil h
        have c3 := C2.out _ wr (HB1.out.trans (hbw.mono hs1)) hil
        rw [HAZ.out _ hil, iN_len] at c3
        have hal := afs_len l (ord l)[k]
        generalize hio : (ord l)[k] = i at *
        have HIO := Lib.hid hio
        have HEN := Lib.hid hEn
        have HKX := Lib.hid (hKn.trans hEe.symm)
        have C3 := Lib.hid c3
        have HE0 : Hid (RbR l w1 w1.heap.size (some ⟨b5, off5, none⟩) (wtJ l F (wtK l F k) i 0) wr) := Lib.hid (by rw [hEz]; exact HE.out)
        have hbs := hbw.size
        have hk1 : (k : Int) < l.length := by omega
        have hk2 : ¬ l.length ≤ k := by omega
        have hm10 : (afs l i).length ≤ 10 := by omega
        have hgs := (vown_at HE.out.own).1
        clear hEn hKn hEz hEe HE hio c3 hal hfew
        go_wp2_with fail
        refine C3.out.mono ?_
        rintro e w4 ⟨⟨v4, rfl, ho4⟩, hb4⟩
        obtain ⟨A4, cap4, rfl, hq4, hq5, hI4, -⟩ := own_ints ho4
        have HNB4 := Lib.hid (NB.of_own ho4 hgs)
        have HE1 := Lib.hid (HE0.out.later hb4)
        have HI4 := Lib.hid hI4
        clear ho4 hI4 HE0 hc5 hb5 C3 hb4
        go_wp2
        go_loopw [12] (fun i' W => ∃ j : Nat, j ≤ (afs l i).length ∧ i' = .int .i64 j ∧ Hid (RbR l w1 w1.heap.size (some ⟨b5, off5, none⟩) (wtJ l F (wtK l F k) i j) W) ∧ Hid (Ints W W.heap.size A4 (afs l i).length (iN (afs l i)))) (fun i' _ => (afs l i).length - (intOf i').toNat)
        case atStart => exact ⟨0, Nat.zero_le _, rfl, HE1, HI4⟩
        case round =>
          obtain ⟨j, hj, rfl, HE, HA⟩ := hrel
          by_cases hlj : j < (afs l i).length
          · have hbw3 := HE.out.bel
            have hFl2 := afs_lt HP.out hil (List.getElem_mem hlj)
            have hnx := (HEN.out j hlj).1
            obtain ⟨b2, off2, rfl, hb2, hc6⟩ := HA.out.at_ j hlj
            change wr.cell? _ = some (.int .i64 (gI (iN (afs l i)) j)) at hc6
            rw [iN_at hlj] at hc6
            obtain ⟨b6, off6, he6, hb6, hc7⟩ := HE.out.ord.at_ k hlt
            injection he6 with he6
            injection he6 with he61 he62
            subst he61 he62
            change wr.cell? _ = some (.int .i64 (gI (iN (ord l)) k)) at hc7
            rw [iN_at hko, HIO.out] at hc7
            generalize (afs l i)[j] = G at *
            obtain ⟨hgs3, hgb, hgc, hgf⟩ := vown_at HE.out.own
            have hcG := (hgc G hFl2).trans (bcells_at hFl2)
            have hci := (hgc i hil).trans (bcells_at hil)
            have hfi := hgf i
            have HST := Lib.hid (HE.out.store HNB.out i hil)
            have HSA := Lib.hid (HA.out.store HNB4.out i (.bool true))
            generalize hQn : wtJ l F (wtK l F k) i (j + 1) = Qn at *
            generalize hQ : wtJ l F (wtK l F k) i j = Q at *
            have HQN := Lib.hid hQn
            have hG1 : (G : Int) < l.length := by omega
            have hG2 : ¬ l.length ≤ G := by omega
            have hi1 : (i : Int) < l.length := by omega
            have hi2 : ¬ l.length ≤ i := by omega
            have hj1 : (j : Int) < (afs l i).length := by omega
            have hj2 : ¬ (afs l i).length ≤ j := by omega
            have HE' := Lib.hid HE.out
            have HAA := Lib.hid HA.out
            by_cases hGF : G = F
            · have hgf2 : ((G : Int) == (F : Int)) = true := by rw [hGF]; simp
              rw [decide_eq_true hGF, Bool.true_or, if_pos rfl] at hnx
              have HNX := Lib.hid hnx
              have HGF := Lib.hid hGF
              clear hnx hgc hgf hQn hQ HE HA hGF
              go_wp2
              go_roundw
              case rel => exact ⟨j + 1, by omega, by go_num, by rw [HQN.out, HNX.out]; exact HST, HSA⟩
              case measure => simp [intOf]; omega
            · have hgf2 : ((G : Int) == (F : Int)) = false := by rw [beq_eq_false_iff_ne]; omega
              rw [decide_eq_false hGF, Bool.false_or] at hnx
              have HGF := Lib.hid hGF
              cases hQG : Q G
              · rw [hQG] at hnx hcG
                rw [if_neg (by decide)] at hnx
                have HNX := Lib.hid hnx
                clear hnx hgc hgf hQn hQ HE HA hGF hQG
                go_wp2
                go_roundw
                case rel => exact ⟨j + 1, by omega, by go_num, by rw [HQN.out, HNX.out]; exact HE', HAA⟩
                case measure => simp [intOf]; omega
              · rw [hQG] at hnx hcG
                rw [if_pos rfl] at hnx
                have HNX := Lib.hid hnx
                clear hnx hgc hgf hQn hQ HE HA hGF hQG
                go_wp2
                go_roundw
                case rel => exact ⟨j + 1, by omega, by go_num, by rw [HQN.out, HNX.out]; exact HST, HSA⟩
                case measure => simp [intOf]; omega
          · have hjn : j = (afs l i).length := by omega
            have hj1 : ¬ (j : Int) < (afs l i).length := by omega
            have HF : Hid (RbR l w1 w1.heap.size (some ⟨b5, off5, none⟩) (wtK l F (k + 1)) wr) := Lib.hid (by rw [HKX.out, ← hjn]; exact HE.out)
            clear HE HA
            go_wp2
            go_roundw
            case rel => exact ⟨k + 1, by omega, by go_num, HF⟩
            case measure => simp [intOf]; omega
      · have hkl : k = l.length := by omega
        subst hkl
        have hk1 : ¬ (l.length : Int) < l.length := by omega
        have HF : Hid (RbR l w1 w1.heap.size A1 (wtR l F) wr) := Lib.hid (by have := HE.out; rw [← hol, wtK_all] at this; exact this)
        obtain ⟨w6, hw6⟩ : ∃ w6, w6 = wr := ⟨_, rfl⟩
        subst hw6
        have hbw6 := HF.out.bel
        have hs6 := hbw6.size
        clear HE
        go_wp2
        go_loopw [13, 14] (fun v i' W => ∃ k : Nat, k ≤ l.length ∧ i' = .int .i64 (k : Int) ∧ Hid (W.ownsRow w6.heap.size 3 1 v (wtT l F k).length (icells (iN (wtT l F k)))) ∧ Below w6.heap.size w6 W) (fun _ i' _ => l.length - (intOf i').toNat)
        case atStart => exact ⟨0, Nat.zero_le _, rfl, Lib.hid (World.ownsRow_nil _ _ _ _), Below.refl _ _⟩
        case round =>
          obtain ⟨k, hk, rfl, HO, hB⟩ := hrel
          have hbs2 := hB.size
          obtain ⟨A1', cap1', rfl, hq1', hq2', -, -⟩ := own_ints HO.out
          have hwl := wtT_len (l := l) (i := F) (k := k)
          by_cases hlt : k < l.length
          · have hk1 : (k : Int) < l.length := by omega
            have hk2 : ¬ l.length ≤ k := by omega
            obtain ⟨hgs3, hgb, hgc, -⟩ := vown_at (HF.out.later hB).own
            have hck := (hgc k hlt).trans (bcells_at hlt)
            have hnx := wtT_next (l := l) (i := F) (k := k)
            cases hR : wtR l F k
            · rw [hR] at hnx hck
              have HNX := Lib.hid hnx
              clear hR hnx hgc
              go_wp2
              go_roundw
              case rel => exact ⟨k + 1, by omega, by go_num, Lib.hid (by rw [HNX.out]; exact HO.out), hB⟩
              case measure => simp [intOf]; omega
            · rw [hR] at hnx hck
              have HNX := Lib.hid hnx
              have HB := Lib.hid hB
              clear hR hnx hgc hB
              go_wp2_with (at_builtin; go_loud (refine wpList_append_own _ rfl (.tmp 78) (.tmp 80) 32 rfl w6.heap.size 3 j0 (.int .i64 0) 1 8 Try.underlying32 hI0.out hI1.out hI2.out hI3.out rfl (by decide) _ _ _ rfl (HO.out.alloc _) ⟨wr.heap.size, 0, none⟩ 1 1 [.int .i64 (k : Int)] rfl rfl (jnews1 _ _ _) (jone1 _) (by unfold maxLen; omega) (by omega) (by simp; omega) ?_))
              intro v8 w8 hown8 hgrow8 _
              have hb9 := (HB.out.alloc hbs2 (.cells #[.int .i64 (k : Int)] 3)).trans (grown_below hgrow8 (by simp; omega) (fun q hq => ((HO.out.alloc (.cells #[.int .i64 (k : Int)] 3)).lt q hq).1))
              have HR2 : Hid (w8.ownsRow w6.heap.size 3 1 v8 (wtT l F (k + 1)).length (icells (iN (wtT l F (k + 1))))) := Lib.hid (by
                rw [HNX.out]
                simp only [if_true, List.length_append, List.length_cons, List.length_nil, iN_app, icells_app]
                exact hown8)
              go_wp2
              go_roundw
              case rel => exact ⟨k + 1, by omega, by go_num, HR2, hb9⟩
              case measure => simp [intOf]; omega
          · have hkl : k = l.length := by omega
            subst hkl
            have hk1 : ¬ (l.length : Int) < l.length := by omega
            have HR : Hid (wr.ownsRow w.heap.size 3 1 (.slice A1' (wtT l F l.length).length cap1') (wtL l F).length (icells (iN (wtL l F)))) := Lib.hid (jown_mono HO.out (Nat.le_trans hs1 hs6))
            have HBF := Lib.hid (HB1.out.trans ((hbw6.mono hs1).trans (hB.mono (Nat.le_trans hs1 hs6))))
            clear hB HO hwl
            go_wp2
            go_ret2
            exact ⟨⟨_, rfl, HR.out⟩, HBF.out⟩
  · have hne : (nmE l s == 0) = false := by simpa using h0
    have hE : wtX l s = [] := if_neg h0
    rw [hE]
    generalize nmE l s = E at *
    have C1 := Lib.hid c1
    clear c1 hx h0
    go_enter Try.func38, Try.ntmps38
    go_wp2_with fail
    refine C1.out.mono ?_
    rintro e w1 ⟨rfl, hb⟩
    have hb2 := Lib.hid hb
    clear hb
    go_wp2
    go_ret2
    exact ⟨⟨_, rfl, World.ownsRow_nil _ _ _ _⟩, hb2.out⟩
end Go.Proofs.Ytgijekhlbkfanaa

namespace Go.Proofs.Ytgijekhlbkfanaa
open Go.RowKit Go.Shelf
attribute [local go_sem] Later.cell Same.cell

theorem info_task : (Try.prog.info? 43).map (fun i => (i.zero, i.size, i.bytes)) = some (some (.agg #[.string ByteArray.empty, .int .i64 0, .int .i64 0, .slice none 0 0]), 4, 56) := by kernel_rfl
theorem info_str : (Try.prog.info? 9).map (fun i => (i.zero, i.size, i.bytes)) = some (some (.string ByteArray.empty), 1, 16) := by kernel_rfl
/-- What is good of a task as it lies. -/
def okR (w : World) (B : Nat) (x : TkR) : Prop := (x.1.2.1 ≤ x.1.2.2 ∧ x.1.2.2 ≤ 9223372036854775807) ∧ Strs w B x.1.1 x.1.2.1 x.2.af
theorem plan_rows {w : World} {B : Nat} {A : Option Addr} {len : Nat} {l : List Tk} (h : Plan w B A len l) : ∃ xs : List TkR, xs.map (·.2) = l ∧ Rows 4 tk4 dTR w B A len xs ∧ ∀ x ∈ xs, okR w B x := by
  obtain ⟨hl, h0⟩ := h
  by_cases hz : len = 0
  · subst hz
    have : l = [] := List.eq_nil_of_length_eq_zero hl
    subst this
    exact ⟨[], rfl, ⟨rfl, fun h => absurd h (Nat.lt_irrefl 0)⟩, fun x hx => by cases hx⟩
  · obtain ⟨b, off, hA, hb, hk⟩ := h0 (by omega)
    have hc : ∀ k, ∃ a : Option Addr × Nat × Nat, k < len → w.cell? ⟨b, off + k * 4 + 3, none⟩ = some (.slice a.1 a.2.1 a.2.2) ∧ (a.2.1 ≤ a.2.2 ∧ a.2.2 ≤ 9223372036854775807) ∧ Strs w B a.1 a.2.1 (tkA l k).af := fun k => by
      by_cases h : k < len
      · obtain ⟨-, -, -, A', n, c, c4, c5, c6, c7⟩ := hk k h
        exact ⟨(A', n, c), fun _ => ⟨c4, ⟨c5, c6⟩, c7⟩⟩
      · exact ⟨(none, 0, 0), fun h' => absurd h' h⟩
    obtain ⟨f, hf⟩ := Classical.axiomOfChoice hc
    refine ⟨(List.range len).map fun k => (f k, tkA l k), ?_, ⟨by simp, fun _ => ⟨b, off, hA, hb, fun k hkl j v hv => ?_⟩⟩, fun x hx => ?_⟩
    · apply List.ext_getElem
      · simp [hl]
      · intro k h1 h2
        simp [tkA, List.getElem?_eq_getElem h2]
    · have hg : ((List.range len).map fun k => (f k, tkA l k))[k]?.getD dTR = (f k, tkA l k) := by simp [List.getElem?_range hkl]
      rw [hg] at hv
      obtain ⟨c1, c2, c3, -⟩ := hk k hkl
      have c4 := (hf k hkl).1
      rcases j with _ | _ | _ | _ | j
      · simp [tk4] at hv; subst hv; exact c1
      · simp [tk4] at hv; subst hv; exact c2
      · simp [tk4] at hv; subst hv; exact c3
      · simp [tk4] at hv; subst hv; exact c4
      · simp [tk4] at hv
    · obtain ⟨k, hk', rfl⟩ := List.mem_map.1 hx
      exact (hf k (List.mem_range.1 hk')).2
def tcel (xs : List TkR) : List Value := xs.flatMap tk4
theorem tcel_app (l m : List TkR) : tcel (l ++ m) = tcel l ++ tcel m := by simp [tcel]
theorem tcel_len (l : List TkR) : (tcel l).length = l.length * 4 := by
  induction l with
  | nil => rfl
  | cons x l ih => simp only [tcel, List.flatMap_cons, List.length_append, List.length_cons, tk4, List.length_nil] at *; omega
theorem tcel_get : ∀ (l : List TkR) (k j : Nat), k < l.length → j < 4 → (tcel l)[k * 4 + j]? = (tk4 (l[k]?.getD dTR))[j]? := by
  intro l
  induction l with
  | nil => intro k j h; exact absurd h (by simp)
  | cons x l ih =>
    intro k j h hj
    have e0 : tcel (x :: l) = tk4 x ++ tcel l := rfl
    have el : (tk4 x).length = 4 := rfl
    rw [e0]
    cases k with
    | zero =>
      rw [List.getElem?_append_left (by rw [el]; omega)]
      simp
    | succ k =>
      rw [List.getElem?_append_right (by rw [el]; omega), el, show (k + 1) * 4 + j - 4 = k * 4 + j by omega, ih k j (by simpa using h) hj]
      simp
theorem tcel_one (l : List TkR) : ∀ u ∈ tcel l, u.oneCell' = true := by
  intro u hu
  simp only [tcel, List.mem_flatMap, tk4, List.mem_cons, List.not_mem_nil, or_false] at hu
  obtain ⟨x, _, rfl | rfl | rfl | rfl⟩ := hu <;> rfl
theorem tcel_set : ∀ (l : List TkR) (k j : Nat) (v : Value) (y : TkR), k < l.length → j < 4 → tk4 y = (tk4 (l[k]?.getD dTR)).set j v → (tcel l).set (k * 4 + j) v = tcel (l.set k y) := by
  intro l
  induction l with
  | nil => intro k j v y h; exact absurd h (by simp)
  | cons x l ih =>
    intro k j v y h hj hy
    have e0 : ∀ z : TkR, ∀ m, tcel (z :: m) = tk4 z ++ tcel m := fun z m => rfl
    have el : (tk4 x).length = 4 := rfl
    rw [e0]
    cases k with
    | zero =>
      rw [List.set_append_left _ _ (by rw [el]; omega), List.set_cons_zero, e0, hy]
      simp
    | succ k =>
      rw [List.set_append_right _ _ (by rw [el]; omega), el, show (k + 1) * 4 + j - 4 = k * 4 + j by omega, List.set_cons_succ, e0, ih k j v y (by simpa using h) hj (by simpa using hy)]
theorem Rows.cellsP {w : World} {B : Nat} {A : Option Addr} {len : Nat} {xs : List TkR} (h : Rows 4 tk4 dTR w B A len xs) : Cells w A (tcel xs) := by
  by_cases h0 : len = 0
  · left
    have : xs = [] := List.eq_nil_of_length_eq_zero (by rw [h.1, h0])
    rw [this]; rfl
  · right
    obtain ⟨b, off, h1, h2, h3⟩ := h.2 (by omega)
    refine ⟨b, off, h1, fun j u hj => ?_⟩
    have hlt : j < (tcel xs).length := (List.getElem?_eq_some_iff.1 hj).1
    rw [tcel_len, h.1] at hlt
    have hq : j / 4 < len := by omega
    have e : j = j / 4 * 4 + j % 4 := by omega
    have h4 := tcel_get xs (j / 4) (j % 4) (by rw [h.1]; exact hq) (Nat.mod_lt _ (by omega))
    rw [← e, hj] at h4
    have := h3 (j / 4) hq (j % 4) u h4.symm
    rw [show off + j / 4 * 4 + j % 4 = off + j by omega] at this
    exact this
def scel (ss : List ByteArray) : List Value := ss.map fun s => .string s
theorem scel_len (ss : List ByteArray) : (scel ss).length = ss.length := by simp [scel]
theorem scel_one (ss : List ByteArray) : ∀ u ∈ scel ss, u.oneCell' = true := by
  intro u hu
  obtain ⟨x, _, rfl⟩ := List.mem_map.1 hu
  rfl
theorem Strs.cells {w : World} {B : Nat} {A : Option Addr} {n : Nat} {ss : List ByteArray} (h : Strs w B A n ss) : Cells w A (scel ss) := by
  by_cases h0 : n = 0
  · left
    have : ss = [] := List.eq_nil_of_length_eq_zero (by rw [h.1, h0])
    rw [this]; rfl
  · right
    obtain ⟨b, off, h1, h2, h3⟩ := h.2 (by omega)
    refine ⟨b, off, h1, fun j u hj => ?_⟩
    have hlt : j < ss.length := by have := (List.getElem?_eq_some_iff.1 hj).1; rw [scel_len] at this; exact this
    have hu : u = .string (ss[j]?.getD ByteArray.empty) := by
      unfold scel at hj
      rw [List.getElem?_map, List.getElem?_eq_getElem hlt] at hj
      rw [List.getElem?_eq_getElem hlt]
      simpa using hj.symm
    subst hu
    have := h3 j (by rw [← h.1]; exact hlt) 0 _ rfl
    simpa using this
theorem Rows.nil0 {w : World} {B c : Nat} {α : Type} {f : α → List Value} {d : α} {A : Option Addr} {n : Nat} {ss : List α} (h : Rows c f d w B A n ss) (hA : A = none) : n = 0 := by
  rcases Nat.eq_zero_or_pos n with h0 | h0
  · exact h0
  · obtain ⟨b, off, h1, -⟩ := h.2 h0
    rw [hA] at h1; cases h1
set_option maxHeartbeats 2000000 in
theorem cloneK_any (A : Option Addr) (n c : Nat) (l : List TkR) (w : World) (hm : n ≤ 100000) (hx : Rows 4 tk4 dTR w w.heap.size A n l) :
    Calls Try.prog 108 #[.slice A n c] w fun e w' => (∃ v, e = .returned v ∧ w'.ownsRow w.heap.size 43 4 v n (tcel l)) ∧ Below w.heap.size w w' := by
  obtain ⟨i0, hi, hz0, hz1, hz2⟩ := info_parts info_task
  have hn := hx.1
  have q22 := fun W a n k => Lib.run_eql_slice_nil (P := Try.prog) W 31 43 a n k 0 0 Try.underlying31
  have HC : Hid (Cells w A (tcel l)) := Lib.hid (by first | exact Rows.cellsP hx | exact Strs.cells hx)
  have HN := Lib.hid (fun h => Rows.nil0 hx h)
  clear hx
  cases A with
  | none =>
    have hn0 := HN.out rfl
    subst hn0
    have hl0 : l = [] := List.eq_nil_of_length_eq_zero hn
    subst hl0
    clear HC HN hi hz0 hz1 hz2
    go_enter Try.func108, Try.ntmps108
    go_wp2
    go_ret
    exact ⟨⟨_, rfl, World.ownsRow_nil _ _ _ _⟩, Below.refl _ _⟩
  | some ad =>
    go_enter Try.func108, Try.ntmps108
    go_wp2_with (at_builtin; refine wpList_append_src rfl _ _ 31 rfl w.heap.size 43 i0 (.agg #[.string ByteArray.empty, .int .i64 0, .int .i64 0, .slice none 0 0]) 4 56 Try.underlying31 hi hz0 hz1 hz2 rfl (by decide) (.slice (some ⟨w.heap.size, 0, none⟩) 0 0) 0 [] rfl (World.ownsRow_made w #[] 0 (Nat.le_refl _) (Nat.zero_le _) rfl) (by simp) (some ad) n c (tcel l) rfl (by rw [tcel_len, hn]; try omega) (by simp) ?qc2 (tcel_one l) (by unfold maxLen; omega) (by omega) (by simp) ?_)
    case qc2 =>
      rcases HC.out with h | ⟨b', off', h1, h2⟩
      · exact .inl h
      · exact .inr ⟨b', off', h1, fun j u hj => Lib.cell?_alloc_some _ (h2 j u hj)⟩
    intro v' w1 hown hgrow hnil
    have hO := Lib.hid hown
    clear hown
    have hB : Below w.heap.size w w1 := ((Below.refl _ w).alloc (Nat.le_refl _) _).grown hgrow (by simp) (by intro k hk; simp [Value.ownBlock] at hk; omega)
    go_wp2
    go_ret
    exact ⟨⟨v', rfl, by simpa using hO.out⟩, hB⟩
set_option maxHeartbeats 2000000 in
theorem cloneS_any (A : Option Addr) (n c : Nat) (l : List ByteArray) (w : World) (hm : n ≤ 100000) (hx : Strs w w.heap.size A n l) :
    Calls Try.prog 109 #[.slice A n c] w fun e w' => (∃ v, e = .returned v ∧ w'.ownsRow w.heap.size 9 1 v n (scel l)) ∧ Below w.heap.size w w' := by
  obtain ⟨i0, hi, hz0, hz1, hz2⟩ := info_parts info_str
  have hn := hx.1
  have q22 := fun W a n k => Lib.run_eql_slice_nil (P := Try.prog) W 41 9 a n k 0 0 Try.underlying41
  have HC : Hid (Cells w A (scel l)) := Lib.hid (by first | exact Rows.cellsP hx | exact Strs.cells hx)
  have HN := Lib.hid (fun h => Rows.nil0 hx h)
  clear hx
  cases A with
  | none =>
    have hn0 := HN.out rfl
    subst hn0
    have hl0 : l = [] := List.eq_nil_of_length_eq_zero hn
    subst hl0
    clear HC HN hi hz0 hz1 hz2
    go_enter Try.func109, Try.ntmps109
    go_wp2
    go_ret
    exact ⟨⟨_, rfl, World.ownsRow_nil _ _ _ _⟩, Below.refl _ _⟩
  | some ad =>
    go_enter Try.func109, Try.ntmps109
    go_wp2_with (at_builtin; refine wpList_append_src rfl _ _ 41 rfl w.heap.size 9 i0 (.string ByteArray.empty) 1 16 Try.underlying41 hi hz0 hz1 hz2 rfl (by decide) (.slice (some ⟨w.heap.size, 0, none⟩) 0 0) 0 [] rfl (World.ownsRow_made w #[] 0 (Nat.le_refl _) (Nat.zero_le _) rfl) (by simp) (some ad) n c (scel l) rfl (by rw [scel_len, hn]; try omega) (by simp) ?qc2 (scel_one l) (by unfold maxLen; omega) (by omega) (by simp) ?_)
    case qc2 =>
      rcases HC.out with h | ⟨b', off', h1, h2⟩
      · exact .inl h
      · exact .inr ⟨b', off', h1, fun j u hj => Lib.cell?_alloc_some _ (h2 j u hj)⟩
    intro v' w1 hown hgrow hnil
    have hO := Lib.hid hown
    clear hown
    have hB : Below w.heap.size w w1 := ((Below.refl _ w).alloc (Nat.le_refl _) _).grown hgrow (by simp) (by intro k hk; simp [Value.ownBlock] at hk; omega)
    go_wp2
    go_ret
    exact ⟨⟨v', rfl, by simpa using hO.out⟩, hB⟩
end Go.Proofs.Ytgijekhlbkfanaa

namespace Go.Proofs.Ytgijekhlbkfanaa
open Go.RowKit
attribute [local go_sem] Later.cell Same.cell

theorem own_strs {w : World} {base : Nat} {e : TypeId} {v : Value} {n : Nat} {ss : List ByteArray} (h : w.ownsRow base e 1 v n (scel ss)) :
    ∃ A cap, v = .slice A n cap ∧ n ≤ cap ∧ cap ≤ maxLen ∧ Strs w w.heap.size A n ss ∧ ∀ b off, A = some ⟨b, off, none⟩ → base ≤ b := by
  obtain ⟨h1, h2⟩ := h
  rw [scel_len] at h1
  have hl : ss.length = n := by omega
  rcases h2 with ⟨rfl, rfl⟩ | ⟨g, cap, cur, rfl, hb, hg, hnc, hm, hcs, ht⟩
  · exact ⟨none, 0, rfl, Nat.le_refl _, Nat.zero_le _, ⟨hl, fun h => absurd h (by omega)⟩, fun b off h => by cases h⟩
  · have hlt : g < w.heap.size := (Array.getElem?_eq_some_iff.1 hg).1
    have hcell : ∀ j, j < n → w.cell? ⟨g, 0 + j, none⟩ = (scel ss)[j]? := by
      intro j hj
      rw [← ht, Nat.zero_add]
      simp [World.cell?, hg, List.getElem?_take, hj]
    refine ⟨some ⟨g, 0, none⟩, cap, rfl, hnc, hm, ⟨hl, fun h0 => ⟨g, 0, rfl, hlt, fun k hk j u hu => ?_⟩⟩, fun b off h => by injection h with h; injection h with h h'; omega⟩
    have hj : j = 0 := by
      have := (List.getElem?_eq_some_iff.1 hu).1
      simpa [str1] using this
    subst hj
    rw [Nat.add_zero, Nat.mul_one, hcell k hk]
    have hkl : k < ss.length := by omega
    unfold scel
    rw [List.getElem?_map, List.getElem?_eq_getElem hkl]
    have : u = .string ss[k] := by
      rw [List.getElem?_eq_getElem hkl] at hu
      simpa [str1] using hu.symm
    rw [this]; rfl
theorem Strs.store {w : World} {B g i n : Nat} {A : Option Addr} {ss : List ByteArray} {v : Value} (h : Strs w B A n ss) (hn : 0 < n → ∀ b off, A = some ⟨b, off, none⟩ → b ≠ g) : Strs (w.setCell ⟨g, i, none⟩ v) B A n ss := by
  refine ⟨h.1, fun h0 => ?_⟩
  obtain ⟨b, off, h1, h2, h3⟩ := h.2 h0
  refine ⟨b, off, h1, h2, fun k hk j u hu => ?_⟩
  have hne := hn h0 b off h1
  rw [World.cell?_setCell_other _ _ _ _ (by intro e; injection e with e; exact hne e.symm)]
  exact h3 k hk j u hu
/-- A plan of the call's own, in block g. -/
structure OPl (W : World) (base g cap n : Nat) (xs : List TkR) : Prop where
  own : W.ownsRow base 43 4 (.slice (some ⟨g, 0, none⟩) n cap) n (tcel xs)
  ok : ∀ x ∈ xs, okR W W.heap.size x
  nb : ∀ x ∈ xs, 0 < x.1.2.1 → ∀ b off, x.1.1 = some ⟨b, off, none⟩ → b ≠ g
theorem OPl.len {W : World} {base g cap n : Nat} {xs : List TkR} (h : OPl W base g cap n xs) : xs.length = n := by
  have := h.own.1; rw [tcel_len] at this; omega
theorem OPl.at_ {W : World} {base g cap n : Nat} {xs : List TkR} (h : OPl W base g cap n xs) : g < W.heap.size ∧ base ≤ g ∧ (∀ k j, k < n → j < 4 → W.cell? ⟨g, k * 4 + j, none⟩ = (tk4 (xs[k]?.getD dTR))[j]?) ∧ ∀ k, W.frozen? ⟨g, k, none⟩ = false := by
  have hl := h.len
  have hfr := fun k => h.own.frozenAt k
  refine ⟨?_, ?_, fun k j hk hj => (h.own.cellAt (k * 4 + j) (by omega)).trans (tcel_get xs k j (by omega) hj), hfr⟩
  · rcases h.own.2 with ⟨h', _⟩ | ⟨g', cap', cur, h', hb, hg, _⟩
    · simp at h'
    · simp only [Value.slice.injEq, Option.some.injEq, Addr.mk.injEq, and_true, true_and] at h'
      obtain ⟨rfl, rfl⟩ := h'
      exact (Array.getElem?_eq_some_iff.1 hg).1
  · rcases h.own.2 with ⟨h', _⟩ | ⟨g', cap', cur, h', hb, hg, _⟩
    · simp at h'
    · simp only [Value.slice.injEq, Option.some.injEq, Addr.mk.injEq, and_true, true_and] at h'
      obtain ⟨rfl, rfl⟩ := h'
      exact hb
theorem OPl.rows {W : World} {base g cap n : Nat} {xs : List TkR} (h : OPl W base g cap n xs) : Rows 4 tk4 dTR W W.heap.size (some ⟨g, 0, none⟩) n xs := by
  obtain ⟨h1, -, h3, -⟩ := h.at_
  refine ⟨h.len, fun h0 => ⟨g, 0, rfl, h1, fun k hk j v hv => ?_⟩⟩
  have hj : j < 4 := by
    have := (List.getElem?_eq_some_iff.1 hv).1
    simpa [tk4] using this
  rw [Nat.zero_add, h3 k j hk hj]
  exact hv
theorem OPl.plan {W : World} {base g cap n : Nat} {xs : List TkR} (h : OPl W base g cap n xs) : Plan W W.heap.size (some ⟨g, 0, none⟩) n (xs.map (·.2)) := plan_of_rows h.rows fun x hx => h.ok x hx
theorem okR.go {w w' : World} {x : TkR} (h : okR w w.heap.size x) (hb : Below w.heap.size w w') : okR w' w'.heap.size x := ⟨h.1, (h.2.below hb).more hb.size⟩
theorem OPl.later {W W' : World} {base g cap n : Nat} {xs : List TkR} (h : OPl W base g cap n xs) (hb : Below W.heap.size W W') : OPl W' base g cap n xs :=
  ⟨jown_later h.own hb, fun x hx => (h.ok x hx).go hb, h.nb⟩
theorem OPl.store {W : World} {base g cap n k j : Nat} {xs : List TkR} {v : Value} {y : TkR} (h : OPl W base g cap n xs) (hk : k < n) (hj : j < 4) (hy : tk4 y = (tk4 (xs[k]?.getD dTR)).set j v) (ho : okR W W.heap.size y) (hn : 0 < y.1.2.1 → ∀ b off, y.1.1 = some ⟨b, off, none⟩ → b ≠ g) :
    OPl (W.setCell ⟨g, k * 4 + j, none⟩ v) base g cap n (xs.set k y) := by
  have hst : ∀ x, okR W W.heap.size x → (0 < x.1.2.1 → ∀ b off, x.1.1 = some ⟨b, off, none⟩ → b ≠ g) → okR (W.setCell ⟨g, k * 4 + j, none⟩ v) (W.setCell ⟨g, k * 4 + j, none⟩ v).heap.size x := fun x h1 h2 => by
    rw [World.size_setCell]
    exact ⟨h1.1, h1.2.store h2⟩
  refine ⟨?_, fun x hx => ?_, fun x hx => ?_⟩
  · rw [← tcel_set xs k j v y (by rw [h.len]; exact hk) hj hy]
    exact (h.own.stored (k * 4 + j) v).1
  · rcases List.mem_or_eq_of_mem_set hx with hx | rfl
    · exact hst x (h.ok x hx) (h.nb x hx)
    · exact hst _ ho hn
  · rcases List.mem_or_eq_of_mem_set hx with hx | rfl
    · exact h.nb x hx
    · exact hn
theorem own_tasks {w : World} {base : Nat} {v : Value} {n : Nat} {xs : List TkR} (h : w.ownsRow base 43 4 v n (tcel xs)) (hn : 0 < n) : ∃ g cap, v = .slice (some ⟨g, 0, none⟩) n cap ∧ n ≤ cap ∧ cap ≤ maxLen := by
  have h1 := h.1
  rw [tcel_len] at h1
  rcases h.2 with ⟨rfl, e⟩ | ⟨g, cap, cur, rfl, hb, hg, hnc, hm, hcs, ht⟩
  · omega
  · exact ⟨g, cap, rfl, hnc, hm⟩
/-- What the loop of copied keeps. -/
def CoR (l : List Tk) (w : World) (g cap : Nat) (k' : Value) (W : World) : Prop := ∃ (k : Nat) (xs : List TkR), k ≤ l.length ∧ k' = .int .i64 (k : Int) ∧ xs.map (·.2) = l ∧ Hid (OPl W w.heap.size g cap l.length xs) ∧ Below w.heap.size w W
set_option maxRecDepth 20000 in
set_option maxHeartbeats 16000000 in
theorem copied_any (A : Option Addr) (len cap : Nat) (l : List Tk) (w : World) (hP : okP l) (hx : Plan w w.heap.size A len l) :
    Calls Try.prog 82 #[.slice A len cap] w fun e w' => (∃ g cap' xs, e = .returned (.slice (some ⟨g, 0, none⟩) len cap') ∧ (len ≤ cap' ∧ cap' ≤ maxLen) ∧ xs.map (·.2) = l ∧ OPl w' w.heap.size g cap' len xs) ∧ Below w.heap.size w w' := by
  obtain rfl : l.length = len := hx.1
  obtain ⟨xs0, hm0, hr0, hg0⟩ := plan_rows hx
  have hL := hP.len
  have c1 := cloneK_any A l.length cap xs0 w (by omega) hr0
  have c2 := fun A n c ss W (hn : n ≤ 100000) (h : Strs W W.heap.size A n ss) => cloneS_any A n c ss W hn h
  have HP := Lib.hid hP
  have HG0 := Lib.hid hg0
  have HM0 := Lib.hid hm0
  have HR0 := Lib.hid hr0
  have C1 := Lib.hid c1
  have C2 := Lib.hid c2
  clear c1 c2 hP hg0 hm0 hr0 hx
  go_enter Try.func82, Try.ntmps82
  go_wp2_with fail
  refine C1.out.mono ?_
  rintro e w1 ⟨⟨v1, rfl, ho1⟩, hb1⟩
  obtain ⟨g, cap1, rfl, hq1, hq2⟩ := own_tasks ho1 HP.out.pos
  have hs1 := hb1.size
  have hgb : w.heap.size ≤ g := by
    rcases ho1.2 with ⟨h', _⟩ | ⟨g', cap', cur, h', hb, hg, _⟩
    · simp at h'
    · simp only [Value.slice.injEq, Option.some.injEq, Addr.mk.injEq, and_true, true_and] at h'
      omega
  have HO1 : Hid (OPl w1 w.heap.size g cap1 l.length xs0) := Lib.hid ⟨ho1, fun x hx => (HG0.out x hx).go hb1, fun x hx h0 b off he => by
    obtain ⟨h1, h2⟩ := HG0.out x hx
    obtain ⟨b', off', e1, e2, -⟩ := h2.2 h0
    rw [he] at e1
    injection e1 with e1
    injection e1 with e1 e3
    omega⟩
  have HB1 := Lib.hid hb1
  have HQ1 := Lib.hid hq1
  clear ho1 hb1 hq1 C1 HG0 HR0
  go_wp2
  go_loopw [9] (fun i W => CoR l w g cap1 i W) (fun i _ => l.length - (intOf i).toNat)
  case atStart => exact ⟨0, xs0, Nat.zero_le _, rfl, HM0.out, HO1, HB1.out⟩
  case round =>
    obtain ⟨k, xs, hk, rfl, hmx, HO, hB⟩ := hrel
    have hbs := hB.size
    by_cases hlt : k < l.length
    · obtain ⟨hgl, hgb2, hgc, hgf⟩ := HO.out.at_
      have hxl := HO.out.len
      have hkx : k < xs.length := by omega
      have hmem : xs[k] ∈ xs := List.getElem_mem hkx
      have hxk : xs[k]?.getD dTR = xs[k] := by rw [List.getElem?_eq_getElem hkx]; rfl
      have hc3 := hgc k 3 hlt (by omega)
      rw [hxk] at hc3
      have hok := HO.out.ok _ hmem
      have haf : xs[k].2.af.length ≤ 10 := by
        have h1 := HP.out.few k hlt
        have h2 : tkA l k = xs[k].2 := by unfold tkA; rw [← hmx, List.getElem?_map, List.getElem?_eq_getElem hkx]; rfl
        rwa [h2] at h1
      have hst := fun (v : Value) (y : TkR) W (hb : Below wr.heap.size wr W) => (HO.out.later hb).store (k := k) (j := 3) (v := v) (y := y) hlt (by omega)
      rw [hxk] at hst
      have hms : ∀ a, (xs.set k (a, xs[k].2)).map (·.2) = l := fun a => by
        rw [List.map_set, hmx]
        apply List.ext_getElem?
        intro q
        rw [List.getElem?_set]
        by_cases hq : k = q
        · subst hq
          rw [if_pos rfl, if_pos hlt, ← hmx, List.getElem?_map, List.getElem?_eq_getElem hkx]; rfl
        · rw [if_neg hq]
      generalize xs[k] = x at *
      obtain ⟨⟨A', n, c⟩, t⟩ := x
      obtain ⟨hnc, hS⟩ := hok
      change n ≤ c ∧ c ≤ _ at hnc
      change Strs wr wr.heap.size A' n t.af at hS
      change wr.cell? _ = some (.slice A' n c) at hc3
      change t.af.length ≤ 10 at haf
      have hn10 : n ≤ 10 := by have := hS.1; omega
      have c3 := C2.out A' n c t.af wr (by omega) hS
      have C3 := Lib.hid c3
      have HST := Lib.hid hst
      have HMS := Lib.hid hms
      have HB := Lib.hid hB
      have hf3 := hgf (k * 4 + 3)
      have hk1 : (k : Int) < l.length := by omega
      have hk2 : ¬ l.length ≤ k := by omega
      clear c3 hst hms hmem hxk hgc hgf hS hnc hB HO
      go_wp2_with fail
      refine C3.out.mono ?_
      rintro e w5 ⟨⟨v5, rfl, ho5⟩, hb5⟩
      obtain ⟨A5, cap5, rfl, hm1, hm2, hS5, hn5⟩ := own_strs ho5
      have hc8 : w5.cell? ⟨g, k * 4 + 3, none⟩ = some (.slice A' n c) := (hb5.cell (p := ⟨g, _, none⟩) hgl).trans hc3
      have hf8 : w5.frozen? ⟨g, k * 4 + 3, none⟩ = false := (hb5.frozen (p := ⟨g, _, none⟩) hgl).trans hf3
      have HO9 := Lib.hid (HST.out (.slice A5 n cap5) ((A5, n, cap5), t) w5 hb5 rfl ⟨⟨hm1, hm2⟩, hS5⟩ (fun _ b off he => by have := hn5 b off he; omega))
      have HB5 := Lib.hid (HB.out.trans (hb5.mono hbs))
      have hgs5 : w.heap.size ≤ g := hgb
      clear ho5 hb5 hS5 hn5 hc3 hf3
      go_wp2
      go_roundw
      case rel => exact ⟨k + 1, _, by omega, by go_num, HMS.out (A5, n, cap5), HO9, HB5.out.setCell (p := ⟨g, k * 4 + 3, none⟩) hgb _⟩
      case measure => simp [intOf]; omega
    · have hkl : k = l.length := by omega
      have hk1 : ¬ (k : Int) < l.length := by omega
      have HB := Lib.hid hB
      have HMX := Lib.hid hmx
      clear hB hmx
      go_wp2
      go_ret
      exact ⟨⟨g, cap1, rfl, ⟨HQ1.out, hq2⟩, xs, HMX.out, HO.out⟩, HB.out⟩
end Go.Proofs.Ytgijekhlbkfanaa

namespace Go.Proofs.Ytgijekhlbkfanaa
open Go.RowKit
attribute [local go_sem] Later.cell Same.cell

def dlE (l : List Tk) (s : ByteArray) (by' : Int) : Int := if nmE l s = 0 then (if wi by' 0 1000 then (if 1000 < dyA l (fnd l s) + by' then 4 else 0) else 7) else nmE l s
/-- What Delayed hands back. -/
def DlG (l : List Tk) (F : Nat) (by' E : Int) (w : World) (e : Ending) (w' : World) : Prop := ∃ v, e = .returned (.tuple #[v, .int .i64 E]) ∧ (E = 0 → ∃ g cap xs, v = .slice (some ⟨g, 0, none⟩) l.length cap ∧ (l.length ≤ cap ∧ cap ≤ maxLen) ∧ xs.map (·.2) = dlT l F by' ∧ OPl w' w.heap.size g cap l.length xs) ∧ (E ≠ 0 → v = .slice none 0 0)
def DlR (l : List Tk) (s : ByteArray) (by' : Int) (w : World) (e : Ending) (w' : World) : Prop := DlG l (fnd l s) by' (dlE l s by') w e w'
theorem DlG.err {l : List Tk} {F : Nat} {by' E : Int} {w w' : World} {e : Ending} (he : e = .returned (.tuple #[.slice none 0 0, .int .i64 E])) (h : E ≠ 0) : DlG l F by' E w e w' := ⟨_, he, fun h' => absurd h' h, fun _ => rfl⟩
theorem DlG.mk {l : List Tk} {F : Nat} {by' : Int} {w w' : World} {e : Ending} {g cap : Nat} {xs : List TkR} (he : e = .returned (.tuple #[.slice (some ⟨g, 0, none⟩) l.length cap, .int .i64 0])) (hq : l.length ≤ cap ∧ cap ≤ maxLen) (hm : xs.map (·.2) = dlT l F by') (ho : OPl w' w.heap.size g cap l.length xs) : DlG l F by' 0 w e w' := ⟨_, he, fun _ => ⟨g, cap, xs, rfl, hq, hm, ho⟩, fun h => absurd rfl h⟩
set_option maxRecDepth 20000 in
set_option maxHeartbeats 16000000 in
theorem Delayed_any (A : Option Addr) (len cap : Nat) (l : List Tk) (s : ByteArray) (by' : Int) (w : World) (hS : Sml l) (hs : s.size ≤ 9223372036854775807) (hby : -9223372036854775808 ≤ by' ∧ by' ≤ 9223372036854775807) (hx : Plan w w.heap.size A len l) :
    Calls Try.prog 39 #[.slice A len cap, .string s, .int .i64 by'] w fun e w' => DlR l s by' w e w' ∧ Below w.heap.size w w' := by
  obtain rfl : l.length = len := hx.1
  have c1 := named_any A l.length cap l s w hS hs hx
  have c2 := fun W => jwithin_any by' 0 1000 W
  have C2 := Lib.hid c2
  clear c2
  by_cases h0 : nmE l s = 0
  · have hn : nmV l s = (fnd l s : Int) := by unfold nmV; rw [if_pos h0]
    have hc : checkE l = 0 ∧ fnd l s < l.length := by
      rcases nm_cases l s with ⟨a, b, -⟩ | ⟨-, -, a, -⟩ | ⟨a, b, -⟩
      · exact ⟨a, b⟩
      · rw [h0] at a; cases a
      · rw [h0] at b; exact absurd b.symm a
    have hP := check_spec hc.1
    have hF := hc.2
    have c3 := fun W (h : Below w.heap.size w W) => copied_any A l.length cap l W hP (hx.go h)
    rw [hn, h0] at c1
    have hE : dlE l s by' = if wi by' 0 1000 then (if 1000 < dyA l (fnd l s) + by' then 4 else 0) else 7 := by unfold dlE; rw [if_pos h0]
    have hdb := dy_bd hP hF
    have hL := hP.len
    have HX := Lib.hid hx
    have hD : DlR l s by' = fun w e w' => DlG l (fnd l s) by' (dlE l s by') w e w' := rfl
    rw [hD]
    rw [hE]
    generalize fnd l s = F at *
    have hF1 : (F : Int) < l.length := by omega
    have hF2 : ¬ l.length ≤ F := by omega
    have C1 := Lib.hid c1
    have C3 := Lib.hid c3
    have HP := Lib.hid hP
    cases hw : wi by' 0 1000
    · rw [if_neg (by decide)]
      have hcw := C2.out
      rw [hw] at hcw
      have C2' := Lib.hid hcw
      clear c1 c3 hx h0 hn hc hP hE hD hS hcw hw C2 hs
      go_enter Try.func39, Try.ntmps39
      go_wp2_with fail
      refine C1.out.mono ?_
      rintro e w1 ⟨rfl, hb⟩
      have HB1 := Lib.hid hb
      clear hb
      go_wp2_with fail
      refine (C2'.out _).mono ?_
      rintro e w2 ⟨rfl, rfl⟩
      go_wp2
      go_ret2
      exact ⟨DlG.err rfl (by decide), HB1.out⟩
    · rw [if_pos rfl]
      have hcw := C2.out
      rw [hw] at hcw
      have C2' := Lib.hid hcw
      have hbw := wi_iff.1 hw
      obtain ⟨b, off, rfl, hb0, -, hcd, -, -⟩ := hx.at_ F hF
      change w.cell? _ = some (.int .i64 (dyA l F)) at hcd
      have HCD := Lib.hid hcd
      obtain ⟨D, hDD⟩ : ∃ D, D = dyA l F := ⟨_, rfl⟩
      rw [← hDD] at hdb
      have HDD := Lib.hid hDD
      rw [← hDD]
      have hwr : wrap64 (D + by') = D + by' := IntWalk.wrap64_in _ ⟨by omega, by omega⟩
      have HWR := Lib.hid hwr
      by_cases hgt : 1000 < D + by'
      · rw [if_pos hgt]
        clear c1 c3 hx h0 hn hc hP hE hD hS hcw hw C2 hcd hDD hwr hs
        go_enter Try.func39, Try.ntmps39
        go_wp2_with fail
        refine C1.out.mono ?_
        rintro e w1 ⟨rfl, hb⟩
        have HB1 := Lib.hid hb
        have hcd : w1.cell? ⟨b, off + F * 4 + 1, none⟩ = some (.int .i64 D) := by rw [hb.cell (p := ⟨b, _, none⟩) hb0, HDD.out]; exact HCD.out
        clear hb
        go_wp2_with fail
        refine (C2'.out _).mono ?_
        rintro e w2 ⟨rfl, rfl⟩
        have hwr := HWR.out
        go_wp2
        go_ret2
        exact ⟨DlG.err rfl (by decide), HB1.out⟩
      · rw [if_neg hgt]
        clear c1 c3 hx h0 hn hc hP hE hD hS hcw hw C2 hcd hDD hwr hs
        go_enter Try.func39, Try.ntmps39
        go_wp2_with fail
        refine C1.out.mono ?_
        rintro e w1 ⟨rfl, hb⟩
        have HB1 := Lib.hid hb
        have hcd : w1.cell? ⟨b, off + F * 4 + 1, none⟩ = some (.int .i64 D) := by rw [hb.cell (p := ⟨b, _, none⟩) hb0, HDD.out]; exact HCD.out
        clear hb
        go_wp2_with fail
        refine (C2'.out _).mono ?_
        rintro e w2 ⟨rfl, rfl⟩
        have hwr := HWR.out
        go_wp2_with fail
        clear hcd
        refine (C3.out _ HB1.out).mono ?_
        rintro e w3 ⟨⟨g, cap3, xs, rfl, ⟨hq1, hq2⟩, hmx, hO⟩, hb⟩
        have hs1 := HB1.out.size
        have HB3 := Lib.hid (HB1.out.trans (hb.mono hs1))
        obtain ⟨hgl, hgb, hgc, hgf⟩ := hO.at_
        have hxl := hO.len
        have hkx : F < xs.length := by omega
        have hxk : xs[F]?.getD dTR = xs[F] := by rw [List.getElem?_eq_getElem hkx]; rfl
        have hx2 : tkA l F = xs[F].2 := by unfold tkA; rw [← hmx, List.getElem?_map, List.getElem?_eq_getElem hkx]; rfl
        have hc3 := hgc F 1 hF (by omega)
        have hf3 := hgf (F * 4 + 1)
        rw [hxk] at hc3
        have hd3 : xs[F].2.dy = D := by rw [← hx2, HDD.out]; rfl
        change w3.cell? _ = some (.int .i64 xs[F].2.dy) at hc3
        rw [hd3] at hc3
        have HO9 := Lib.hid (hO.store (k := F) (j := 1) (v := .int .i64 (D + by')) (y := (xs[F].1, { xs[F].2 with dy := D + by' })) hF (by omega) (by rw [hxk]; rfl) (hO.ok xs[F] (List.getElem_mem hkx)) (fun h => hO.nb xs[F] (List.getElem_mem hkx) h))
        have HMX : Hid ((xs.set F (xs[F].1, { xs[F].2 with dy := D + by' })).map (·.2) = dlT l F by') := Lib.hid (by
          rw [List.map_set, hmx]
          unfold dlT
          rw [hx2, HDD.out])
        have hgw : w.heap.size ≤ g := by omega
        have HB9 := Lib.hid (HB3.out.setCell (p := ⟨g, F * 4 + 1, none⟩) hgw (.int .i64 (D + by')))
        have HQ := Lib.hid hq1
        clear hgc hgf hmx hxk hx2 hd3 hO hb HDD HCD
        go_wp2
        go_ret2
        exact ⟨DlG.mk rfl ⟨HQ.out, hq2⟩ HMX.out ⟨jown_mono HO9.out.own hs1, HO9.out.ok, HO9.out.nb⟩, HB9.out⟩
  · have hne : (nmE l s == 0) = false := by simpa using h0
    have hE : dlE l s by' = nmE l s := by unfold dlE; rw [if_neg h0]
    have hD : DlR l s by' = fun w e w' => DlG l (fnd l s) by' (dlE l s by') w e w' := rfl
    rw [hD, hE]
    have hE0 := Lib.hid h0
    generalize nmE l s = E at *
    have C1 := Lib.hid c1
    clear c1 hx h0 hE hD
    go_enter Try.func39, Try.ntmps39
    go_wp2_with fail
    refine C1.out.mono ?_
    rintro e w1 ⟨rfl, hb⟩
    have hb2 := Lib.hid hb
    clear hb
    go_wp2
    go_ret2
    exact ⟨DlG.err rfl hE0.out, hb2.out⟩
end Go.Proofs.Ytgijekhlbkfanaa

namespace Go.Proofs.Ytgijekhlbkfanaa
open Go.RowKit
attribute [local go_sem] Later.cell Same.cell

def wtI (l : List Tk) (s : ByteArray) : List Int := iN (wtX l s)
theorem wtI_any (A : Option Addr) (len cap : Nat) (l : List Tk) (s : ByteArray) (w : World) (hS : Sml l) (hs : s.size ≤ 9223372036854775807) (hx : Plan w w.heap.size A len l) :
    Calls Try.prog 37 #[.slice A len cap, .string s] w fun e w' => (∃ v, e = .returned (.tuple #[v, .int .i64 (nmE l s)]) ∧ w'.ownsRow w.heap.size 3 1 v (wtI l s).length (icells (wtI l s))) ∧ Below w.heap.size w w' := by
  have := Waits_any A len cap l s w hS hs hx
  rw [← iN_len (wtX l s)] at this
  exact this
theorem rwtI_any (A : Option Addr) (len cap : Nat) (l : List Tk) (s : ByteArray) (w : World) (hS : Sml l) (hs : s.size ≤ 9223372036854775807) (hx : Plan w w.heap.size A len l) :
    Calls Try.prog 38 #[.slice A len cap, .string s] w fun e w' => (∃ v, e = .returned (.tuple #[v, .int .i64 (nmE l s)]) ∧ w'.ownsRow w.heap.size 3 1 v (wtI l s).length (icells (wtI l s))) ∧ Below w.heap.size w w' := by
  have := rWaits_any A len cap l s w hS hs hx
  rw [← iN_len (wtX l s)] at this
  exact this
theorem slk_bd {l : List Tk} (h : okP l) {i : Nat} (hi : i < l.length) : 0 ≤ slk l i ∧ slk l i ≤ 500000 := by
  have h1 := ear_lat h i hi
  have h2 := ear_pos h i
  have h3 := tlV_pos h hi
  have h4 := lenV_bd h
  unfold tlV at h3
  unfold slk
  omega
theorem dl_sml {l : List Tk} (hS : Sml l) {i : Nat} {d : Int} (hi : i < l.length) : Sml (dlT l i d) := by
  have ha := dlT_alike (d := d) hi
  refine ⟨by rw [ha.len]; exact hS.len, fun j hj => ?_, fun j hj => ?_, fun j hj => ?_⟩
  · rw [ha.len] at hj; rw [ha.nm]; exact hS.nm j hj
  · rw [ha.len] at hj; rw [ha.af]; exact hS.af j hj
  · rw [ha.len] at hj; rw [ha.af]; exact hS.an j hj
theorem dl_facts {l : List Tk} (h : okP l) (hS : Sml l) {i : Nat} (hi : i < l.length) {d : Int} (hd : 0 ≤ d) (hm : dyA l i + d ≤ 1000) : lenE (dlT l i d) = lenV (dlT l i d) ∧ Sml (dlT l i d) ∧ checkE (dlT l i d) = 0 := by
  have hk := check_mk (dlT_ok h hi hd hm)
  exact ⟨if_pos hk, dl_sml hS hi, hk⟩
theorem lenV_more {l : List Tk} (h : okP l) {i : Nat} (hi : i < l.length) (hm : dyA l i + (slk l i + 1) ≤ 1000) : lenV (dlT l i (slk l i + 1)) = lenV l + 1 := by
  have hb := slk_bd h hi
  rw [lenV_delay h hi (by omega) hm]
  unfold imax
  split <;> omega
set_option maxRecDepth 20000 in
set_option maxHeartbeats 16000000 in
theorem slack_walk (A : Option Addr) (len cap : Nat) (xs : List TkR) (s : ByteArray) (w : World) (hlc : len ≤ cap ∧ cap ≤ 9223372036854775807) (hP : Rows 4 tk4 dTR w w.heap.size A len xs) (hg : ∀ x ∈ xs, gTk w x) (hsz : s.size ≤ 9223372036854775807) :
    Calls Try.prog 6 #[.slice A len cap, .string s] w fun e w' => e = .returned (.bool true) ∧ Below w.heap.size w w' := by
  have hx := plan_in hP hg
  obtain ⟨l, hl⟩ : ∃ l, l = xs.map (·.2) := ⟨_, rfl⟩
  rw [← hl] at hx
  have hSm : l.length ≤ 1000 → (∀ i, i < l.length → (tkA l i).af.length ≤ 1000) → Sml l := fun a b => by rw [hl] at a b ⊢; exact sml_in hg a b
  clear hP hg hl
  obtain rfl : l.length = len := hx.1
  have c0 := fun W => awake9_any W
  have cm := fun W (h : Below w.heap.size w W) => many_any A l.length cap l W (by omega) (hx.go h)
  have C0 := Lib.hid c0
  have CM := Lib.hid cm
  have HB0 := Lib.hid (Below.refl w.heap.size w)
  have HX := Lib.hid hx
  have HSM := Lib.hid hSm
  clear c0 cm hx hSm
  go_enter Try.func6, Try.ntmps6
  go_wp2_with fail
  refine (C0.out _).mono ?_
  rintro e w1 ⟨rfl, hb1⟩
  have HB1 := Lib.hid (HB0.out.trans (hb1.mono HB0.out.size))
  clear hb1
  go_wp2_with fail
  refine (CM.out _ HB1.out).mono ?_
  rintro e w1001 ⟨⟨b, rfl, hmb⟩, rfl⟩
  cases b
  case true =>
    clear hmb
    go_wp2
    go_ret
    exact ⟨rfl, HB1.out⟩
  by_cases h30 : 100 < s.size
  · have h31 : (100 : Int) < s.size := by omega
    clear hmb
    go_wp2
    go_ret
    exact ⟨rfl, HB1.out⟩
  have h31 : ¬ (100 : Int) < s.size := by omega
  obtain ⟨m1, m2, m3⟩ := hmb rfl
  have hS := HSM.out (by omega) (fun i hi => by have := m1 i hi; omega)
  have c1 := fun W (h : Below w.heap.size w W) => Slack_any A l.length cap l s W hS hsz (HX.out.go h)
  have c2 := fun W (h : Below w.heap.size w W) => rSlack_any A l.length cap l s W hS hsz (HX.out.go h)
  have c3 := fun W (h : Below w.heap.size w W) => wtI_any A l.length cap l s W hS hsz (HX.out.go h)
  have c4 := fun W (h : Below w.heap.size w W) => rwtI_any A l.length cap l s W hS hsz (HX.out.go h)
  have c5 := fun by' hb W (h : Below w.heap.size w W) => Delayed_any A l.length cap l s by' W hS hsz hb (HX.out.go h)
  have c6 := fun W (h : Below w.heap.size w W) => Length_any A l.length cap l W hS (HX.out.go h)
  generalize hXX : wtI l s = X at *
  by_cases h0 : nmE l s = 0
  case neg =>
    have hne : (nmE l s == 0) = false := by simpa using h0
    generalize nmE l s = E at *
    generalize slkV l s = Z at *
    have C1 := Lib.hid c1
    have C2 := Lib.hid c2
    have C3 := Lib.hid c3
    have C4 := Lib.hid c4
    clear c1 c2 c3 c4 c5 c6 m1 m2 m3 hS h0 hXX
    go_wp2_with fail
    refine (C1.out _ HB1.out).mono ?_
    rintro e w2 ⟨rfl, hb2⟩
    have HB2 := Lib.hid (HB1.out.trans (hb2.mono HB1.out.size))
    clear hb2
    go_wp2_with fail
    refine (C2.out _ HB2.out).mono ?_
    rintro e w3 ⟨rfl, hb3⟩
    have HB3 := Lib.hid (HB2.out.trans (hb3.mono HB2.out.size))
    clear hb3
    go_wp2_with fail
    refine (C3.out _ HB3.out).mono ?_
    rintro e w4 ⟨⟨va, rfl, hoa⟩, hb4⟩
    have HB4 := Lib.hid (HB3.out.trans (hb4.mono HB3.out.size))
    obtain ⟨Aa, ka, rfl, qa1, qa2, hIa, -⟩ := own_ints hoa
    clear hoa
    clear hb4
    go_wp2_with fail
    refine (C4.out _ HB4.out).mono ?_
    rintro e w5 ⟨⟨vb, rfl, hob⟩, hb5⟩
    have HB5 := Lib.hid (HB4.out.trans (hb5.mono HB4.out.size))
    replace hIa := hIa.go hb5
    obtain ⟨Ab, kb, rfl, qb1, qb2, hIb, -⟩ := own_ints hob
    clear hob
    clear hb5
    go_wp2_with fail
    have hq := SameInts6_any Aa (X).length ka (X) Ab (X).length kb (X) _ (by unfold maxLen at qa2; omega) (by unfold maxLen at qb2; omega) hIa hIb
    rw [decide_eq_true (rfl : (X) = X)] at hq
    refine (hq).mono ?_
    rintro e w6 ⟨rfl, hb6⟩
    have HB6 := Lib.hid (HB5.out.trans (hb6.mono HB5.out.size))
    replace hIa := hIa.go hb6
    replace hIb := hIb.go hb6
    clear hq
    clear hb6
    clear hIa hIb
    go_wp2_with fail
    go_ret
    exact ⟨rfl, HB6.out⟩
  · have hc : checkE l = 0 ∧ fnd l s < l.length := by
      rcases nm_cases l s with ⟨a, b, -⟩ | ⟨-, -, a, -⟩ | ⟨a, b, -⟩
      · exact ⟨a, b⟩
      · rw [h0] at a; cases a
      · rw [h0] at b; exact absurd b.symm a
    have hP := check_spec hc.1
    have hsv : slkV l s = slk l (fnd l s) := if_pos h0
    have hsb := slk_bd hP hc.2
    rw [← hsv] at hsb
    have hdl := dl_facts hP hS hc.2 (d := slkV l s + 1) (by omega)
    have hlv : lenE l = lenV l := if_pos hc.1
    have hll : ∀ (hm : dyA l (fnd l s) + (slkV l s + 1) ≤ 1000), lenE (dlT l (fnd l s) (slkV l s + 1)) = lenV l + 1 := fun hm => by rw [(hdl hm).1]; rw [hsv] at hm ⊢; exact lenV_more hP hc.2 hm
    have hlb := lenV_bd hP
    have hDE : dlE l s (slkV l s + 1) = if wi (slkV l s + 1) 0 1000 then (if 1000 < dyA l (fnd l s) + (slkV l s + 1) then 4 else 0) else 7 := if_pos h0
    have c5' := c5 (slkV l s + 1) (by omega)
    have c7 := fun (hm : dyA l (fnd l s) + (slkV l s + 1) ≤ 1000) A' cap' W hx => Length_any A' l.length cap' (dlT l (fnd l s) (slkV l s + 1)) W (hdl hm).2.1 hx
    simp only [h0] at c1 c2 c3 c4
    simp only [hlv, hc.1] at c6
    simp only [DlR, hDE] at c5'
    have c8 := fun (hm : dyA l (fnd l s) + (slkV l s + 1) ≤ 1000) A' cap' W hx => c7 hm A' cap' W hx
    have hck : ∀ (hm : dyA l (fnd l s) + (slkV l s + 1) ≤ 1000), checkE (dlT l (fnd l s) (slkV l s + 1)) = 0 := fun hm => (hdl hm).2.2
    have C1 := Lib.hid c1
    have C2 := Lib.hid c2
    have C3 := Lib.hid c3
    have C4 := Lib.hid c4
    have C6 := Lib.hid c6
    have C7 := Lib.hid c7
    have HLL := Lib.hid hll
    have HCK := Lib.hid hck
    have hwr : wrap64 (slkV l s + 1) = slkV l s + 1 := IntWalk.wrap64_in _ ⟨by omega, by omega⟩
    have hwl : wrap64 (lenV l + 1) = lenV l + 1 := IntWalk.wrap64_in _ ⟨by omega, by omega⟩
    have HWL := Lib.hid hwl
    generalize lenV l = L at *
    generalize slkV l s = Z at *
    generalize fnd l s = F at *
    clear c1 c2 c3 c4 c5 c6 c7 c8 hll hck hdl hwl m1 m2 m3 hS h0 hc hsv hlv hDE hP hXX
    cases hw : wi (Z + 1) 0 1000
    · rw [hw, if_neg (by decide)] at c5'
      have C5 := Lib.hid c5'
      clear c5' hw
      go_wp2_with fail
      refine (C1.out _ HB1.out).mono ?_
      rintro e w2 ⟨rfl, hb2⟩
      have HB2 := Lib.hid (HB1.out.trans (hb2.mono HB1.out.size))
      clear hb2
      go_wp2_with fail
      refine (C2.out _ HB2.out).mono ?_
      rintro e w3 ⟨rfl, hb3⟩
      have HB3 := Lib.hid (HB2.out.trans (hb3.mono HB2.out.size))
      clear hb3
      go_wp2_with fail
      refine (C3.out _ HB3.out).mono ?_
      rintro e w4 ⟨⟨va, rfl, hoa⟩, hb4⟩
      have HB4 := Lib.hid (HB3.out.trans (hb4.mono HB3.out.size))
      obtain ⟨Aa, ka, rfl, qa1, qa2, hIa, -⟩ := own_ints hoa
      clear hoa
      clear hb4
      go_wp2_with fail
      refine (C4.out _ HB4.out).mono ?_
      rintro e w5 ⟨⟨vb, rfl, hob⟩, hb5⟩
      have HB5 := Lib.hid (HB4.out.trans (hb5.mono HB4.out.size))
      replace hIa := hIa.go hb5
      obtain ⟨Ab, kb, rfl, qb1, qb2, hIb, -⟩ := own_ints hob
      clear hob
      clear hb5
      go_wp2_with fail
      have hq := SameInts6_any Aa (X).length ka (X) Ab (X).length kb (X) _ (by unfold maxLen at qa2; omega) (by unfold maxLen at qb2; omega) hIa hIb
      rw [decide_eq_true (rfl : (X) = X)] at hq
      refine (hq).mono ?_
      rintro e w6 ⟨rfl, hb6⟩
      have HB6 := Lib.hid (HB5.out.trans (hb6.mono HB5.out.size))
      replace hIa := hIa.go hb6
      replace hIb := hIb.go hb6
      clear hq
      clear hb6
      clear hIa hIb
      go_wp2_with fail
      refine (C5.out _ HB6.out).mono ?_
      rintro e w7 ⟨⟨v, rfl, -, -⟩, hb7⟩
      have HB7 := Lib.hid (HB6.out.trans (hb7.mono HB6.out.size))
      clear hb7
      go_wp2_with fail
      go_ret
      exact ⟨rfl, HB7.out⟩
    · rw [hw, if_pos rfl] at c5'
      by_cases hgt : 1000 < dyA l F + (Z + 1)
      · rw [if_pos hgt] at c5'
        have C5 := Lib.hid c5'
        clear c5' hw hgt
        go_wp2_with fail
        refine (C1.out _ HB1.out).mono ?_
        rintro e w2 ⟨rfl, hb2⟩
        have HB2 := Lib.hid (HB1.out.trans (hb2.mono HB1.out.size))
        clear hb2
        go_wp2_with fail
        refine (C2.out _ HB2.out).mono ?_
        rintro e w3 ⟨rfl, hb3⟩
        have HB3 := Lib.hid (HB2.out.trans (hb3.mono HB2.out.size))
        clear hb3
        go_wp2_with fail
        refine (C3.out _ HB3.out).mono ?_
        rintro e w4 ⟨⟨va, rfl, hoa⟩, hb4⟩
        have HB4 := Lib.hid (HB3.out.trans (hb4.mono HB3.out.size))
        obtain ⟨Aa, ka, rfl, qa1, qa2, hIa, -⟩ := own_ints hoa
        clear hoa
        clear hb4
        go_wp2_with fail
        refine (C4.out _ HB4.out).mono ?_
        rintro e w5 ⟨⟨vb, rfl, hob⟩, hb5⟩
        have HB5 := Lib.hid (HB4.out.trans (hb5.mono HB4.out.size))
        replace hIa := hIa.go hb5
        obtain ⟨Ab, kb, rfl, qb1, qb2, hIb, -⟩ := own_ints hob
        clear hob
        clear hb5
        go_wp2_with fail
        have hq := SameInts6_any Aa (X).length ka (X) Ab (X).length kb (X) _ (by unfold maxLen at qa2; omega) (by unfold maxLen at qb2; omega) hIa hIb
        rw [decide_eq_true (rfl : (X) = X)] at hq
        refine (hq).mono ?_
        rintro e w6 ⟨rfl, hb6⟩
        have HB6 := Lib.hid (HB5.out.trans (hb6.mono HB5.out.size))
        replace hIa := hIa.go hb6
        replace hIb := hIb.go hb6
        clear hq
        clear hb6
        clear hIa hIb
        go_wp2_with fail
        refine (C5.out _ HB6.out).mono ?_
        rintro e w7 ⟨⟨v, rfl, -, -⟩, hb7⟩
        have HB7 := Lib.hid (HB6.out.trans (hb7.mono HB6.out.size))
        clear hb7
        go_wp2_with fail
        go_ret
        exact ⟨rfl, HB7.out⟩
      · rw [if_neg hgt] at c5'
        have hm : dyA l F + (Z + 1) ≤ 1000 := by omega
        have c7 := C7.out hm
        simp only [HLL.out hm, HCK.out hm] at c7
        have C5 := Lib.hid c5'
        have C8 := Lib.hid c7
        clear c5' c7 hw hgt hm
        go_wp2_with fail
        refine (C1.out _ HB1.out).mono ?_
        rintro e w2 ⟨rfl, hb2⟩
        have HB2 := Lib.hid (HB1.out.trans (hb2.mono HB1.out.size))
        clear hb2
        go_wp2_with fail
        refine (C2.out _ HB2.out).mono ?_
        rintro e w3 ⟨rfl, hb3⟩
        have HB3 := Lib.hid (HB2.out.trans (hb3.mono HB2.out.size))
        clear hb3
        go_wp2_with fail
        refine (C3.out _ HB3.out).mono ?_
        rintro e w4 ⟨⟨va, rfl, hoa⟩, hb4⟩
        have HB4 := Lib.hid (HB3.out.trans (hb4.mono HB3.out.size))
        obtain ⟨Aa, ka, rfl, qa1, qa2, hIa, -⟩ := own_ints hoa
        clear hoa
        clear hb4
        go_wp2_with fail
        refine (C4.out _ HB4.out).mono ?_
        rintro e w5 ⟨⟨vb, rfl, hob⟩, hb5⟩
        have HB5 := Lib.hid (HB4.out.trans (hb5.mono HB4.out.size))
        replace hIa := hIa.go hb5
        obtain ⟨Ab, kb, rfl, qb1, qb2, hIb, -⟩ := own_ints hob
        clear hob
        clear hb5
        go_wp2_with fail
        have hq := SameInts6_any Aa (X).length ka (X) Ab (X).length kb (X) _ (by unfold maxLen at qa2; omega) (by unfold maxLen at qb2; omega) hIa hIb
        rw [decide_eq_true (rfl : (X) = X)] at hq
        refine (hq).mono ?_
        rintro e w6 ⟨rfl, hb6⟩
        have HB6 := Lib.hid (HB5.out.trans (hb6.mono HB5.out.size))
        replace hIa := hIa.go hb6
        replace hIb := hIb.go hb6
        clear hq
        clear hb6
        clear hIa hIb
        go_wp2_with fail
        refine (C5.out _ HB6.out).mono ?_
        rintro e w7 ⟨⟨v, rfl, hv, -⟩, hb7⟩
        obtain ⟨g, capg, xs, rfl, hq, hmx, hO⟩ := hv rfl
        have HB7 := Lib.hid (HB6.out.trans (hb7.mono HB6.out.size))
        have hpl := hO.plan
        rw [hmx] at hpl
        have HPL := Lib.hid hpl
        clear hb7 hv hO hpl hmx
        go_wp2_with fail
        refine (C6.out _ HB7.out).mono ?_
        rintro e w8 ⟨rfl, hb8⟩
        have HB8 := Lib.hid (HB7.out.trans (hb8.mono HB7.out.size))
        have HPL2 := Lib.hid (HPL.out.go hb8)
        clear hb8 HPL
        go_wp2_with fail
        refine (C8.out (some ⟨g, 0, none⟩) capg _ HPL2.out).mono ?_
        rintro e w9 ⟨rfl, hb9⟩
        have HB9 := Lib.hid (HB8.out.trans (hb9.mono HB8.out.size))
        clear hb9 HPL2
        have hwl := HWL.out
        go_wp2_with fail
        go_ret
        exact ⟨rfl, HB9.out⟩
end Go.Proofs.Ytgijekhlbkfanaa
