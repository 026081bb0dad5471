/- Joined by merge.py from: ReadM Read1 Read2 Read3 RReadA RReadB SameI OpenQ LReads. -/
import Derived.Test.YtloogollfconpaaWkN
import Derived.Test.YtloogollfconpaaTape9
import Derived.Deep.DeepCutAuto
import Derived.Test.YtloogollfconpaaBase
import Derived.Test.YtloogollfconpaaShelf
import Derived.Test.YtloogollfconpaaLater
import Derived.Test.YtloogollfconpaaOpenR
set_option linter.unusedSimpArgs false
set_option linter.unusedVariables false
namespace Go.Proofs.Ytloogollfconpaa
open Go.RowKit

/-- A reading: two nodes, from, to. -/
abbrev Rd := Int × Int × Int × Int × Int × Int
def rd6 (x : Rd) : List Value := [.int .i64 x.1, .int .i64 x.2.1, .int .i64 x.2.2.1, .int .i64 x.2.2.2.1, .int .i64 x.2.2.2.2.1, .int .i64 x.2.2.2.2.2]
def rd0 : Rd := (0,0,0,0,0,0)
def rdA (r : List Rd) (k : Nat) : Rd := r[k]?.getD rd0
theorem rows_at6r {w : World} {B : Nat} {A : Option Addr} {len : Nat} {r : List Rd} (h : Rows 6 rd6 rd0 w B A len r) (k : Nat) (hk : k < len) :
    ∃ b off, A = some ⟨b, off, none⟩ ∧ b < B ∧ w.cell? ⟨b, off + k * 6, none⟩ = some (.int .i64 (rdA r k).1) ∧ w.cell? ⟨b, off + k * 6 + 1, none⟩ = some (.int .i64 (rdA r k).2.1) ∧ w.cell? ⟨b, off + k * 6 + 2, none⟩ = some (.int .i64 (rdA r k).2.2.1) ∧ w.cell? ⟨b, off + k * 6 + 3, none⟩ = some (.int .i64 (rdA r k).2.2.2.1) ∧ w.cell? ⟨b, off + k * 6 + 4, none⟩ = some (.int .i64 (rdA r k).2.2.2.2.1) ∧ w.cell? ⟨b, off + k * 6 + 5, none⟩ = some (.int .i64 (rdA r k).2.2.2.2.2) := by
  obtain ⟨b, off, h1, h2, h3⟩ := h.at_ k hk
  exact ⟨b, off, h1, h2, h3 0 _ rfl, h3 1 _ rfl, h3 2 _ rfl, h3 3 _ rfl, h3 4 _ rfl, h3 5 _ rfl⟩
def b64 (n : Int) : Prop := -9223372036854775808 ≤ n ∧ n ≤ 9223372036854775807
def okQ (n d : Int) : Bool := withinB d 1 1000000000 && withinB n 0 1000000000
/-- Whether a reading of a valid net is one. -/
def okRd (n : Int) (l : List Tp) (x : Rd) : Bool := ((allW n [x.1, x.2.1] && okQ x.2.2.1 x.2.2.2.1) && okQ x.2.2.2.2.1 x.2.2.2.2.2) && decide (cmpR x.2.2.1 x.2.2.2.1 x.2.2.2.2.1 x.2.2.2.2.2 ≤ 0)
def rdE (n : Int) (l : List Tp) (r : List Rd) : Int := if vNet n l then (if 20 < r.length then 7 else if (List.range r.length).all (fun k => okRd n l (rdA r k)) then 0 else 7) else 1
def fitO (l : List Tp) (x : Rd) : Bool := (jnB l x.1 x.2.1 && decide (0 ≤ cmpR (resN l x.1 x.2.1) (resD l x.1 x.2.1) x.2.2.1 x.2.2.2.1)) && decide (cmpR (resN l x.1 x.2.1) (resD l x.1 x.2.1) x.2.2.2.2.1 x.2.2.2.2.2 ≤ 0)
def fitB (l : List Tp) (r : List Rd) : Bool := (List.range r.length).all fun k => fitO l (rdA r k)
theorem allR_next {f : Nat → Bool} {k : Nat} (h : (List.range k).all f = true) (hf : f k = true) : (List.range (k + 1)).all f = true := by
  rw [List.range_succ, List.all_append, h]; simpa using hf
theorem allR_no {f : Nat → Bool} {k n : Nat} (hk : k < n) (hf : f k = false) : (List.range n).all f = false := by
  rw [List.all_eq_false]; exact ⟨k, List.mem_range.2 hk, by rw [hf]; decide⟩
theorem allR_at {f : Nat → Bool} {k n : Nat} (h : (List.range n).all f = true) (hk : k < n) : f k = true := List.all_eq_true.1 h k (List.mem_range.2 hk)
theorem rdE_zero {n : Int} {l : List Tp} {r : List Rd} (h : rdE n l r = 0) : vNet n l = true ∧ r.length ≤ 20 ∧ ∀ k, k < r.length → okRd n l (rdA r k) = true := by
  unfold rdE at h
  split at h
  · rename_i h1
    split at h
    · cases h
    · split at h
      · rename_i h2 h3
        exact ⟨h1, by omega, fun k hk => allR_at h3 hk⟩
      · cases h
  · cases h
/-- What a good reading has. -/
theorem okRd_spec {n : Int} {l : List Tp} {x : Rd} (hv : vNet n l = true) (h : okRd n l x = true) : (0 ≤ x.1 ∧ x.1 < n ∧ 0 ≤ x.2.1 ∧ x.2.1 < n) ∧ (1 ≤ x.2.2.2.1 ∧ x.2.2.2.1 ≤ 1000000000) ∧ (0 ≤ x.2.2.1 ∧ x.2.2.1 ≤ 1000000000) ∧ (1 ≤ x.2.2.2.2.2 ∧ x.2.2.2.2.2 ≤ 1000000000) ∧ (0 ≤ x.2.2.2.2.1 ∧ x.2.2.2.2.1 ≤ 1000000000) := by
  unfold okRd okQ at h
  simp only [Bool.and_eq_true] at h
  obtain ⟨⟨⟨h1, h2, h3⟩, h4, h5⟩, -⟩ := h
  have ha : askE n l [x.1, x.2.1] = 0 := by unfold askE; rw [hv, h1]; rfl
  exact ⟨allW2 ha, withinB_iff.1 h2, withinB_iff.1 h3, withinB_iff.1 h4, withinB_iff.1 h5⟩
/-- Readings that are good for a net: their nodes and numbers lie within bounds. -/
def okRs (n : Int) (r : List Rd) : Prop := ∀ k, k < r.length → (0 ≤ (rdA r k).1 ∧ (rdA r k).1 < n ∧ 0 ≤ (rdA r k).2.1 ∧ (rdA r k).2.1 < n) ∧ (1 ≤ (rdA r k).2.2.2.1 ∧ (rdA r k).2.2.2.1 ≤ 1000000000) ∧ (0 ≤ (rdA r k).2.2.1 ∧ (rdA r k).2.2.1 ≤ 1000000000) ∧ (1 ≤ (rdA r k).2.2.2.2.2 ∧ (rdA r k).2.2.2.2.2 ≤ 1000000000) ∧ (0 ≤ (rdA r k).2.2.2.2.1 ∧ (rdA r k).2.2.2.2.1 ≤ 1000000000)
theorem rdE_rs {n : Int} {l : List Tp} {r : List Rd} (h : rdE n l r = 0) : okRs n r := fun k hk => okRd_spec (rdE_zero h).1 ((rdE_zero h).2.2 k hk)
/-- The tapes without which the readings fit. -/
def brkR (l : List Tp) (r : List Rd) (k : Nat) : List Int := ((List.range k).filter fun i => fitB (l.eraseIdx i) r).map fun (i : Nat) => (i : Int)
theorem brkR_yes {l : List Tp} {r : List Rd} {k : Nat} (h : fitB (l.eraseIdx k) r = true) : brkR l r (k + 1) = brkR l r k ++ [(k : Int)] := by
  unfold brkR; rw [List.range_succ, List.filter_append]; simp [h]
theorem brkR_no {l : List Tp} {r : List Rd} {k : Nat} (h : fitB (l.eraseIdx k) r = false) : brkR l r (k + 1) = brkR l r k := by
  unfold brkR; rw [List.range_succ, List.filter_append]; simp [h]
theorem brkR_len (l : List Tp) (r : List Rd) (k : Nat) : (brkR l r k).length ≤ k := by
  unfold brkR; rw [List.length_map]; exact Nat.le_trans (List.length_filter_le ..) (by rw [List.length_range]; exact Nat.le_refl _)
def brkE (n : Int) (l : List Tp) (r : List Rd) : Int := if rdE n l r = 0 then (if fitB l r then 10 else 0) else rdE n l r
def brkL (n : Int) (l : List Tp) (r : List Rd) : List Int := if brkE n l r = 0 then brkR l r l.length else []
end Go.Proofs.Ytloogollfconpaa

namespace Go.Proofs.Ytloogollfconpaa
open Go.RowKit
attribute [local go_sem] Later.cell Same.cell

theorem ints0r (W : World) : Ints W W.heap.size none 0 [] := ⟨rfl, fun h => by omega⟩
set_option maxRecDepth 20000 in
set_option maxHeartbeats 8000000 in
theorem readings_any (n : Int) (A : Option Addr) (len cap : Nat) (l : List Tp) (A' : Option Addr) (m cap' : Nat) (r : List Rd) (w : World) (hm : len ≤ 9223372036854775807) (hm' : m ≤ 9223372036854775807) (hx : Rows 3 int3 (0,0,0) w w.heap.size A len l) (hy : Rows 6 rd6 rd0 w w.heap.size A' m r)
    (bd : ∀ k, k < m → (b64 (rdA r k).2.2.1 ∧ b64 (rdA r k).2.2.2.1) ∧ b64 (rdA r k).2.2.2.2.1 ∧ b64 (rdA r k).2.2.2.2.2) :
    Calls Try.prog 13 #[.int .i64 n, .slice A len cap, .slice A' m cap'] w fun e w' => e = .returned (.int .i64 (rdE n l r)) ∧ Below w.heap.size w w' := by
  have c1 := fun W (h : Below w.heap.size w W) => asked_any n A len cap l none 0 0 [] W hm (by omega) ((hx.below h).more h.size) (ints0r _)
  have hA : askE n l [] = if vNet n l then 0 else 1 := by unfold askE; cases vNet n l <;> rfl
  have hE : rdE n l r = if vNet n l then (if 20 < r.length then 7 else if (List.range r.length).all (fun k => okRd n l (rdA r k)) then 0 else 7) else 1 := rfl
  have hrl := hy.1
  rw [hrl] at hE
  cases hv : vNet n l
  · rw [hv, if_neg (by decide)] at hE
    rw [hA, hv, if_neg (by decide)] at c1
    rw [hE]
    have C1 := Lib.hid c1
    clear c1 hx hy hA hv hE bd
    go_enter Try.func13, Try.ntmps13
    go_wp2_with fail
    refine (C1.out _ (by repeat (first | exact Below.refl _ _ | assumption | refine Below.setCell ?_ (by first | (simp; done) | (simp; omega) | omega) _ | refine Below.drew ?_ | refine below_drewN ?_ _ | refine Below.alloc ?_ (by first | (simp; done) | (simp; omega) | omega) _ | refine below_alloc ?_ _ | refine below_step ?_ (by assumption)))).mono ?_
    rintro e w1 ⟨rfl, hb⟩
    have hB_w1 : Below w.heap.size w w1 := (by repeat (first | exact Below.refl _ _ | assumption | refine Below.setCell ?_ (by first | (simp; done) | (simp; omega) | omega) _ | refine Below.drew ?_ | refine below_drewN ?_ _ | refine Below.alloc ?_ (by first | (simp; done) | (simp; omega) | omega) _ | refine below_alloc ?_ _ | refine below_step ?_ (by assumption))); have hz_w1 := hB_w1.size; clear hb
    go_wp2
    go_ret
    exact ⟨rfl, (by repeat (first | exact Below.refl _ _ | assumption | refine Below.setCell ?_ (by first | (simp; done) | (simp; omega) | omega) _ | refine Below.drew ?_ | refine below_drewN ?_ _ | refine Below.alloc ?_ (by first | (simp; done) | (simp; omega) | omega) _ | refine below_alloc ?_ _ | refine below_step ?_ (by assumption)))⟩
  · rw [hv, if_pos rfl] at hE
    rw [hA, hv, if_pos rfl] at c1
    by_cases h20 : 20 < m
    · rw [if_pos h20] at hE
      rw [hE]
      have h20' : (20 : Int) < m := by omega
      have C1 := Lib.hid c1
      clear c1 hx hy hA hv hE bd
      go_enter Try.func13, Try.ntmps13
      go_wp2_with fail
      refine (C1.out _ (by repeat (first | exact Below.refl _ _ | assumption | refine Below.setCell ?_ (by first | (simp; done) | (simp; omega) | omega) _ | refine Below.drew ?_ | refine below_drewN ?_ _ | refine Below.alloc ?_ (by first | (simp; done) | (simp; omega) | omega) _ | refine below_alloc ?_ _ | refine below_step ?_ (by assumption)))).mono ?_
      rintro e w1 ⟨rfl, hb⟩
      have hB_w1 : Below w.heap.size w w1 := (by repeat (first | exact Below.refl _ _ | assumption | refine Below.setCell ?_ (by first | (simp; done) | (simp; omega) | omega) _ | refine Below.drew ?_ | refine below_drewN ?_ _ | refine Below.alloc ?_ (by first | (simp; done) | (simp; omega) | omega) _ | refine below_alloc ?_ _ | refine below_step ?_ (by assumption))); have hz_w1 := hB_w1.size; clear hb
      go_wp2
      go_ret
      exact ⟨rfl, (by repeat (first | exact Below.refl _ _ | assumption | refine Below.setCell ?_ (by first | (simp; done) | (simp; omega) | omega) _ | refine Below.drew ?_ | refine below_drewN ?_ _ | refine Below.alloc ?_ (by first | (simp; done) | (simp; omega) | omega) _ | refine below_alloc ?_ _ | refine below_step ?_ (by assumption)))⟩
    · rw [if_neg h20] at hE
      have h20' : ¬ (20 : Int) < m := by omega
      have c2 := fun a b t W (h : Below w.heap.size w W) => asked_any n A len cap l (some ⟨W.heap.size, 0, none⟩) 2 2 [a, b] (W.alloc (.cells #[.int .i64 a, .int .i64 b] t)) hm (by omega) ((hx.below (h.alloc h.size _)).more (by simp; have := h.size; omega)) (ints2 W a b t)
      have hask : ∀ x : Rd, askE n l [x.1, x.2.1] = if allW n [x.1, x.2.1] then 0 else 7 := fun x => by unfold askE; rw [hv]; rfl
      obtain ⟨R, hR⟩ : ∃ R, R = rdE n l r := ⟨_, rfl⟩
      rw [← hR]
      rw [← hR] at hE
      have C1 := Lib.hid c1
      have C2 := Lib.hid c2
      have HE := Lib.hid hE
      have HAK := Lib.hid hask
      have HX := Lib.hid hx
      have HY := Lib.hid hy
      have BD := Lib.hid bd
      clear c1 c2 hx hy hA hv hE bd hask hR
      go_enter Try.func13, Try.ntmps13
      go_wp2_with fail
      refine (C1.out _ (by repeat (first | exact Below.refl _ _ | assumption | refine Below.setCell ?_ (by first | (simp; done) | (simp; omega) | omega) _ | refine Below.drew ?_ | refine below_drewN ?_ _ | refine Below.alloc ?_ (by first | (simp; done) | (simp; omega) | omega) _ | refine below_alloc ?_ _ | refine below_step ?_ (by assumption)))).mono ?_
      rintro e w1 ⟨rfl, hb⟩
      have hB_w1 : Below w.heap.size w w1 := (by repeat (first | exact Below.refl _ _ | assumption | refine Below.setCell ?_ (by first | (simp; done) | (simp; omega) | omega) _ | refine Below.drew ?_ | refine below_drewN ?_ _ | refine Below.alloc ?_ (by first | (simp; done) | (simp; omega) | omega) _ | refine below_alloc ?_ _ | refine below_step ?_ (by assumption))); have hz_w1 := hB_w1.size; clear hb
      have HB1 := Lib.hid hB_w1
      go_wp2
      go_loopw [24] (fun i W => ∃ k : Nat, k ≤ m ∧ i = .int .i64 k ∧ Hid ((List.range k).all (fun k => okRd n l (rdA r k)) = true) ∧ Below w1.heap.size w1 W) (fun i _ => m - (intOf i).toNat)
      case atStart => exact ⟨0, Nat.zero_le _, rfl, Lib.hid rfl, Below.refl _ _⟩
      case round =>
        obtain ⟨k, hk, rfl, HT, hb⟩ := hrel
        have hBw : Below w.heap.size w wr := HB1.out.trans (hb.mono hz_w1)
        have hsb := hb.size
        by_cases hlt : k < m
        · obtain ⟨b, off, rfl, hb0, q0, q1, q2, q3, q4, q5⟩ := rows_at6r (HY.out.below hBw) k hlt
          have hbs := hBw.size
          have hb1 : b < wr.heap.size := by omega
          have hk1 : (k : Int) < m := by omega
          have bdk := BD.out k hlt
          have hno : Hid (okRd n l (rdA r k) = false → 7 = R) := Lib.hid (fun h => by rw [HE.out, if_neg (by rw [allR_no hlt h]; decide)])
          have hyes : Hid (okRd n l (rdA r k) = true → (List.range (k + 1)).all (fun k => okRd n l (rdA r k)) = true) := Lib.hid (fun h => allR_next HT.out h)
          have hrk : okRd n l (rdA r k) = (((allW n [(rdA r k).1, (rdA r k).2.1] && okQ (rdA r k).2.2.1 (rdA r k).2.2.2.1) && okQ (rdA r k).2.2.2.2.1 (rdA r k).2.2.2.2.2) && decide (cmpR (rdA r k).2.2.1 (rdA r k).2.2.2.1 (rdA r k).2.2.2.2.1 (rdA r k).2.2.2.2.2 ≤ 0)) := rfl
          rw [hrk] at hno hyes
          clear hrk
          have hak := HAK.out (rdA r k)
          generalize rdA r k = X at *
          obtain ⟨xa, xb, ln, ld, hn, hd⟩ := X
          dsimp only at *
          obtain ⟨⟨⟨x1, x2⟩, x3, x4⟩, ⟨x5, x6⟩, x7, x8⟩ := bdk
          have c3 := C2.out xa xb 3 (wr.alloc (.cells #[.int .i64 xa, .int .i64 xb, .int .i64 ln, .int .i64 ld, .int .i64 hn, .int .i64 hd] 57)) (hBw.alloc hBw.size _)
          have hz1 : (wr.alloc (.cells #[.int .i64 xa, .int .i64 xb, .int .i64 ln, .int .i64 ld, .int .i64 hn, .int .i64 hd] 57)).heap.size = wr.heap.size + 1 := by simp
          rw [hz1] at c3
          clear hz1
          rw [hak] at c3
          have C3 := Lib.hid c3
          clear c3 hak HT
          have hCR := ((CA.new wr [.int .i64 xa, .int .i64 xb, .int .i64 ln, .int .i64 ld, .int .i64 hn, .int .i64 hd] 57).alloc (.cells #[.int .i64 xa, .int .i64 xb] 3))
          have hCR := Lib.hid hCR
          have hBA : Below w1.heap.size w1 ((wr.alloc (.cells #[.int .i64 xa, .int .i64 xb, .int .i64 ln, .int .i64 ld, .int .i64 hn, .int .i64 hd] 57)).alloc (.cells #[.int .i64 xa, .int .i64 xb] 3)) := (hb.alloc hsb _).alloc (by simp; omega) _
          have hBA := Lib.hid hBA
          by_cases hall : allW n [xa, xb] = true
          · rw [hall, if_pos rfl] at C3
            rw [hall, Bool.true_and] at hno hyes
            clear hall
            go_wp2_with fail
            refine C3.out.mono ?_
            rintro e w2 ⟨rfl, hb2⟩
            have hCR2 := hCR.out.later hb2
            have hB2 : Below w1.heap.size w1 w2 := hBA.out.trans (hb2.mono hBA.out.size)
            have hRB := Lib.hid hCR2
            obtain ⟨r0, -⟩ := hCR2.2 0 _ rfl
            obtain ⟨r1, -⟩ := hCR2.2 1 _ rfl
            obtain ⟨r2, -⟩ := hCR2.2 2 _ rfl
            obtain ⟨r3, -⟩ := hCR2.2 3 _ rfl
            obtain ⟨r4, -⟩ := hCR2.2 4 _ rfl
            obtain ⟨r5, -⟩ := hCR2.2 5 _ rfl
            have rz := hCR2.1
            clear hb2 hCR2 hCR hBA
            generalize wr.heap.size = RB at *
            go_wp2_with fail
            have hSB := CA.new w2 [.int .i64 ln, .int .i64 ld, .int .i64 hn, .int .i64 hd] 39
            have hRB3 := hRB.out.alloc (.cells #[.int .i64 ln, .int .i64 ld, .int .i64 hn, .int .i64 hd] 39)
            have hB3 : Below w1.heap.size w1 (w2.alloc (.cells #[.int .i64 ln, .int .i64 ld, .int .i64 hn, .int .i64 hd] 39)) := hB2.alloc hB2.size _
            have HSB := Lib.hid hSB
            have HRB3 := Lib.hid hRB3
            have HB3 := Lib.hid hB3
            clear hSB hRB3 hB3 r0 r1 r2 r3 r4 r5 rz hRB hB2
            generalize (w2.alloc (.cells #[.int .i64 ln, .int .i64 ld, .int .i64 hn, .int .i64 hd] 39)) = w3 at *
            generalize w2.heap.size = SB at *
            go_loopw [45] (fun i' W => ∃ j : Nat, j ≤ 2 ∧ i' = .int .i64 (j : Int) ∧ Hid (1 ≤ j → okQ ln ld = true) ∧ Hid (2 ≤ j → okQ hn hd = true) ∧ Hid (CA W RB [.int .i64 xa, .int .i64 xb, .int .i64 ln, .int .i64 ld, .int .i64 hn, .int .i64 hd]) ∧ Hid (CA W SB [.int .i64 ln, .int .i64 ld, .int .i64 hn, .int .i64 hd]) ∧ Hid (Below w1.heap.size w1 W)) (fun i' _ => 2 - (intOf i').toNat)
            case atStart => exact ⟨0, by omega, rfl, Lib.hid (fun h => by omega), Lib.hid (fun h => by omega), HRB3, HSB, HB3⟩
            case round =>
              clear HRB3 HSB HB3
              obtain ⟨j, hj, rfl, HQ1, HQ2, HRB, HSB, HB⟩ := hrel
              by_cases hj2 : j < 2
              · obtain ⟨p, q, hp, hq, HNO2, HY1, HY2⟩ : ∃ p q : Int, wr.cell? ⟨SB, j * 2, none⟩ = some (.int .i64 p) ∧ wr.cell? ⟨SB, j * 2 + 1, none⟩ = some (.int .i64 q) ∧ Hid (okQ p q = false → 7 = R) ∧ Hid (okQ p q = true → 1 ≤ j + 1 → okQ ln ld = true) ∧ Hid (okQ p q = true → 2 ≤ j + 1 → okQ hn hd = true) := by
                  rcases (by omega : j = 0 ∨ j = 1) with rfl | rfl
                  · exact ⟨ln, ld, (HSB.out.2 0 _ rfl).1, (HSB.out.2 1 _ rfl).1, Lib.hid (fun h => hno.out (by rw [h]; rfl)), Lib.hid (fun h _ => h), Lib.hid (fun _ h => by omega)⟩
                  · exact ⟨hn, hd, (HSB.out.2 2 _ rfl).1, (HSB.out.2 3 _ rfl).1, Lib.hid (fun h => hno.out (by rw [h, Bool.and_false, Bool.false_and])), Lib.hid (fun _ _ => HQ1.out (by omega)), Lib.hid (fun h _ => h)⟩
                have hsz := HSB.out.1
                have j1 : (j : Int) < 2 := by omega
                have j2 : ¬ 2 ≤ j := by omega
                have hok : okQ p q = (withinB q 1 1000000000 && withinB p 0 1000000000) := rfl
                have c4 := fun W => twithin_any q 1 1000000000 W
                have c5 := fun W => twithin_any p 0 1000000000 W
                have hbz := HB.out.size
                have HRB4 := Lib.hid (HRB.out.alloc (.cells #[.int .i64 p, .int .i64 q] 39))
                have HSB4 := Lib.hid (HSB.out.alloc (.cells #[.int .i64 p, .int .i64 q] 39))
                have HB4 := Lib.hid (HB.out.alloc HB.out.size (.cells #[.int .i64 p, .int .i64 q] 39))
                clear HRB HSB HB HQ1 HQ2
                cases hw1 : withinB q 1 1000000000
                · rw [hw1] at c4 hok
                  have C4 := Lib.hid c4
                  have hfin := Lib.hid (HNO2.out (by rw [hok]; rfl))
                  clear c4 c5 hok HNO2 HY1 HY2 hno hyes hw1
                  go_wp2_with fail
                  refine (C4.out _).mono ?_
                  rintro e w4 ⟨rfl, rfl⟩
                  have HB5 := Lib.hid (HB1.out.trans (HB4.out.mono hz_w1))
                  go_wp2_with fail
                  go_ret
                  exact ⟨ret_int hfin.out, HB5.out⟩
                · rw [hw1] at c4 hok
                  have C4 := Lib.hid c4
                  cases hw2 : withinB p 0 1000000000
                  · rw [hw2] at c5 hok
                    have C5 := Lib.hid c5
                    have hfin := Lib.hid (HNO2.out (by rw [hok]; rfl))
                    clear c4 c5 hok HNO2 HY1 HY2 hno hyes hw1 hw2
                    go_wp2_with fail
                    refine (C4.out _).mono ?_
                    rintro e w4 ⟨rfl, rfl⟩
                    go_wp2_with fail
                    refine (C5.out _).mono ?_
                    rintro e w5 ⟨rfl, rfl⟩
                    have HB5 := Lib.hid (HB1.out.trans (HB4.out.mono hz_w1))
                    go_wp2_with fail
                    go_ret
                    exact ⟨ret_int hfin.out, HB5.out⟩
                  · rw [hw2] at c5 hok
                    have C5 := Lib.hid c5
                    have HZ1 := Lib.hid (HY1.out hok)
                    have HZ2 := Lib.hid (HY2.out hok)
                    clear c4 c5 hok HNO2 HY1 HY2 hno hyes hw1 hw2
                    go_wp2_with fail
                    refine (C4.out _).mono ?_
                    rintro e w4 ⟨rfl, rfl⟩
                    go_wp2_with fail
                    refine (C5.out _).mono ?_
                    rintro e w5 ⟨rfl, rfl⟩
                    go_wp2_with fail
                    go_roundw
                    case rel => exact ⟨j + 1, by omega, by go_num, HZ1, HZ2, HRB4, HSB4, HB4⟩
                    case measure => simp [intOf]; omega
              · have j1 : ¬ (j : Int) < 2 := by omega
                have hq1 := HQ1.out (by omega)
                have hq2 := HQ2.out (by omega)
                rw [hq1, hq2, Bool.true_and, Bool.true_and] at hno hyes
                have c6 := fun W => CompareT_any ln ld hn hd W x1 x2 x3 x4 x5 x6 x7 x8
                generalize cmpR ln ld hn hd = CC at *
                have C6 := Lib.hid c6
                obtain ⟨⟨r0, -⟩, ⟨r1, -⟩⟩ := And.intro (HRB.out.2 2 _ rfl) (HRB.out.2 3 _ rfl)
                obtain ⟨⟨r2, -⟩, ⟨r3, -⟩⟩ := And.intro (HRB.out.2 4 _ rfl) (HRB.out.2 5 _ rfl)
                have rz := HRB.out.1
                clear c6 HQ1 HQ2 hq1 hq2 HSB HRB
                by_cases hC : 0 < CC
                · have hfin := Lib.hid (hno.out (decide_eq_false (by omega)))
                  clear hno hyes
                  go_wp2_with fail
                  refine (C6.out _).mono ?_
                  rintro e w4 ⟨rfl, hb4⟩
                  have HB5 := Lib.hid (HB1.out.trans ((HB.out.trans (hb4.mono HB.out.size)).mono hz_w1))
                  clear hb4
                  go_wp2_with fail
                  go_ret
                  exact ⟨ret_int hfin.out, HB5.out⟩
                · have hT2 := Lib.hid (hyes.out (decide_eq_true (by omega)))
                  clear hno hyes
                  go_wp2_with fail
                  refine (C6.out _).mono ?_
                  rintro e w4 ⟨rfl, hb4⟩
                  have HB5 : Below w1.heap.size w1 w4 := HB.out.trans (hb4.mono HB.out.size)
                  clear hb4
                  go_wp2_with fail
                  go_roundw
                  case rel => exact ⟨k + 1, by omega, by go_num, hT2, HB5⟩
                  case measure => simp [intOf]; omega
          · have hallf : allW n [xa, xb] = false := by simpa using hall
            rw [hallf, if_neg (by decide)] at C3
            rw [hallf, Bool.false_and, Bool.false_and, Bool.false_and] at hno hyes
            have hfin := Lib.hid (hno.out rfl)
            clear hall hallf hyes hno hCR
            go_wp2_with fail
            refine C3.out.mono ?_
            rintro e w2 ⟨rfl, hb2⟩
            have hB2 := Lib.hid (HB1.out.trans ((hBA.out.trans (hb2.mono hBA.out.size)).mono hz_w1))
            clear hb2
            go_wp2
            go_ret
            exact ⟨ret_int hfin.out, hB2.out⟩
        · have hkn : k = m := by omega
          have hfin : Hid (0 = R) := Lib.hid (by rw [HE.out, ← hkn, if_pos HT.out])
          have hk1 : ¬ (k : Int) < m := by omega
          clear HT
          go_wp2
          go_ret
          exact ⟨ret_int hfin.out, hBw⟩
end Go.Proofs.Ytloogollfconpaa

namespace Go.Proofs.Ytloogollfconpaa
open Go.RowKit
attribute [local go_sem] Later.cell Same.cell

theorem fit_true {l : List Tp} {r : List Rd} {m : Nat} (hm : r.length = m) (h : (List.range m).all (fun k => fitO l (rdA r k)) = true) : true = fitB l r := by unfold fitB; rw [hm, h]
set_option maxRecDepth 20000 in
set_option maxHeartbeats 16000000 in
theorem fits_any (n : Int) (A : Option Addr) (len cap : Nat) (l : List Tp) (A' : Option Addr) (m cap' : Nat) (r : List Rd) (w : World) (hv : vNet n l = true) (hr : okRs n r) (hm' : m ≤ 20) (hx : Rows 3 int3 (0,0,0) w w.heap.size A len l) (hy : Rows 6 rd6 rd0 w w.heap.size A' m r) :
    Calls Try.prog 14 #[.slice A len cap, .slice A' m cap'] w fun e w' => e = .returned (.bool (fitB l r)) ∧ Below w.heap.size w w' := by
  obtain ⟨hn, hlen, hl⟩ := vNet_spec hv
  have hll := hx.1
  have hrl := hy.1
  rw [hll] at hlen
  rw [← hrl] at hm'
  have c3 := fun W => whole_any A len cap W (by omega)
  have hpw : 1 ≤ 2 ^ len ∧ 2 ^ len ≤ 1024 := ⟨Nat.one_le_two_pow, Nat.pow_le_pow_right (by decide) (show len ≤ 10 by omega)⟩
  have c4 := fun W h => joined_any A len cap l (2 ^ len - 1) W (by omega) (by omega) h hl
  have hfu : (jk l (2 ^ len - 1) len).1 = full l R0 := by rw [← hll]; exact jk_full
  have hR : (full l R0).length = 6 := full_len _ R0
  have c5 := fun a b ha hb W h => resistance_any A len cap l a b W (by omega) ha hb hl h
  have hbd := fun a b (ha : nod a) => res_bd (b := b) hl (by rw [hll]; exact hlen) ha
  have hno : ∀ k, k < m → fitO l (rdA r k) = false → false = fitB l r := fun k hk h => by unfold fitB; rw [hrl, allR_no hk h]
  have hyes := fun h => fit_true (l := l) hrl h
  have hO : ∀ x : Rd, fitO l x = (((at6 (full l R0) x.1 == at6 (full l R0) x.2.1) && decide (0 ≤ cmpR (resN l x.1 x.2.1) (resD l x.1 x.2.1) x.2.2.1 x.2.2.2.1)) && decide (cmpR (resN l x.1 x.2.1) (resD l x.1 x.2.1) x.2.2.2.2.1 x.2.2.2.2.2 ≤ 0)) := fun x => by unfold fitO jnB; rfl
  generalize fitB l r = V at *
  generalize jk l (2 ^ len - 1) len = q at *
  obtain ⟨R, qt⟩ := q
  dsimp only at *
  subst hfu
  generalize full l R0 = R at *
  unfold arrV at c4
  rw [hrl] at hm'
  have hr2 : ∀ k, k < m → _ := fun k hk => hr k (by omega)
  have C3 := Lib.hid c3
  have C4 := Lib.hid c4
  have C5 := Lib.hid c5
  have HR := Lib.hid hR
  have HBD := Lib.hid hbd
  have HNO := Lib.hid hno
  have HYES := Lib.hid hyes
  have HO := Lib.hid hO
  have HX := Lib.hid hx
  have HY := Lib.hid hy
  have HRS := Lib.hid hr2
  clear c3 c4 c5 hR hbd hno hyes hO hx hy hr hr2 hv hl hpw hll hrl
  go_enter Try.func14, Try.ntmps14
  go_wp2_with fail
  refine (C3.out _).mono ?_
  rintro e w1 ⟨rfl, rfl⟩
  go_wp2_with fail
  refine (C4.out _ HX.out).mono ?_
  rintro e w1 ⟨rfl, hb1⟩
  have HB1 := Lib.hid hb1
  clear hb1 C3 C4
  go_wp2_with fail
  have HA0 := Lib.hid (arr_blk w1 HR.out 62)
  have HB2 := Lib.hid (HB1.out.alloc HB1.out.size (.cells #[.int .i64 (num R 0), .int .i64 (num R 1), .int .i64 (num R 2), .int .i64 (num R 3), .int .i64 (num R 4), .int .i64 (num R 5)] 62))
  generalize (w1.alloc (.cells #[.int .i64 (num R 0), .int .i64 (num R 1), .int .i64 (num R 2), .int .i64 (num R 3), .int .i64 (num R 4), .int .i64 (num R 5)] 62)) = w2 at *
  generalize w1.heap.size = G at *
  clear HB1
  go_loopw [19] (fun i' W => ∃ k : Nat, k ≤ m ∧ i' = .int .i64 (k : Int) ∧ Hid ((List.range k).all (fun k => fitO l (rdA r k)) = true) ∧ Hid (Arr W G R) ∧ Hid (Below w.heap.size w W)) (fun i' _ => m - (intOf i').toNat)
  case atStart => exact ⟨0, Nat.zero_le _, rfl, Lib.hid rfl, HA0, HB2⟩
  case round =>
    clear HA0 HB2
    obtain ⟨k, hk, rfl, HT, HA, HB⟩ := hrel
    by_cases hlt : k < m
    · obtain ⟨b, off, rfl, hb0, q0, q1, q2, q3, q4, q5⟩ := rows_at6r (HY.out.below HB.out) k hlt
      have hbs := HB.out.size
      have hb1 : b < wr.heap.size := by omega
      have hk1 : (k : Int) < m := by omega
      have hno := HNO.out k hlt
      have hyes := fun h => allR_next HT.out (f := fun k => fitO l (rdA r k)) (k := k) h
      have hrs := HRS.out k hlt
      have hO := HO.out (rdA r k)
      rw [hO] at hno
      (try dsimp only at hyes)
      rw [hO] at hyes
      generalize rdA r k = X at *
      obtain ⟨xa, xb, ln, ld, hn1, hd⟩ := X
      dsimp only at *
      obtain ⟨⟨x1, x2, x3, x4⟩, ⟨x5, x6⟩, ⟨x7, x8⟩, ⟨x9, x10⟩, x11, x12⟩ := hrs
      have ha : nod xa := ⟨by omega, by omega⟩
      have hbn : nod xb := ⟨by omega, by omega⟩
      have hrb := HBD.out xa xb ha
      have c5 := fun W h => C5.out xa xb ha hbn W h
      have HNX := Lib.hid hno
      have HYX := Lib.hid hyes
      have HRB := Lib.hid ((CA.new wr [.int .i64 xa, .int .i64 xb, .int .i64 ln, .int .i64 ld, .int .i64 hn1, .int .i64 hd] 57))
      have HA3 := Lib.hid (HA.out.alloc (.cells #[.int .i64 xa, .int .i64 xb, .int .i64 ln, .int .i64 ld, .int .i64 hn1, .int .i64 hd] 57))
      have HB3 := Lib.hid (HB.out.alloc HB.out.size (.cells #[.int .i64 xa, .int .i64 xb, .int .i64 ln, .int .i64 ld, .int .i64 hn1, .int .i64 hd] 57))
      have hGw : G < wr.heap.size := HA.out.1
      clear hno hyes hO HT HA HB
      go_wp2_with fail
      generalize (wr.alloc (.cells #[.int .i64 xa, .int .i64 xb, .int .i64 ln, .int .i64 ld, .int .i64 hn1, .int .i64 hd] 57)) = w3 at *
      generalize wr.heap.size = RB at *
      have hga := (HA3.out.at_ xa.toNat (by omega)).1
      have hgb := (HA3.out.at_ xb.toNat (by omega)).1
      rw [num_at6'] at hga hgb
      have hgz := HA3.out.1
      have hrz := HRB.out.1
      obtain ⟨r0, -⟩ := HRB.out.2 0 _ rfl
      obtain ⟨r1, -⟩ := HRB.out.2 1 _ rfl
      have xa6 : ¬ 6 ≤ xa.toNat := by omega
      have xb6 : ¬ 6 ≤ xb.toNat := by omega
      have hjj : (at6 R xa == at6 R xb) = decide (at6 R xa = at6 R xb) := rfl
      rw [hjj] at HNX HYX
      generalize at6 R xa = x at *
      generalize at6 R xb = y at *
      have hxa5 : xa ≤ 5 := by omega
      have hxb5 : xb ≤ 5 := by omega
      go_wp2_with fail
      (refine wp_region_later (by kernel_rfl) (by kernel_rfl) ?_; (repeat (go_big_quiet_step ((fail)))); refine wpQuiet_nil ?_)
      intro w6 hb6
      have HA6 := Lib.hid (HA3.out.below hb6 hgz)
      have HR6 := Lib.hid (HRB.out.later hb6)
      have HB6 := Lib.hid (HB3.out.trans (hb6.mono HB3.out.size))
      clear hb6 hga hgb r0 r1 HA3 HRB HB3 hgz hrz
      by_cases hxy : x = y
      · subst hxy
        have HNY : Hid ((decide (0 ≤ cmpR (resN l xa xb) (resD l xa xb) ln ld) && decide (cmpR (resN l xa xb) (resD l xa xb) hn1 hd ≤ 0)) = false → false = V) := Lib.hid (fun h => HNX.out (by rw [decide_eq_true rfl, Bool.true_and]; exact h))
        have HYY : Hid ((decide (0 ≤ cmpR (resN l xa xb) (resD l xa xb) ln ld) && decide (cmpR (resN l xa xb) (resD l xa xb) hn1 hd ≤ 0)) = true → (List.range (k + 1)).all (fun k => fitO l (rdA r k)) = true) := Lib.hid (fun h => HYX.out (by rw [decide_eq_true rfl, Bool.true_and]; exact h))
        have c6 := fun W => CompareT_any (resN l xa xb) (resD l xa xb) ln ld W (by omega) (by omega) (by omega) (by omega) (by omega) (by omega) (by omega) (by omega)
        have c7 := fun W => CompareT_any (resN l xa xb) (resD l xa xb) hn1 hd W (by omega) (by omega) (by omega) (by omega) (by omega) (by omega) (by omega) (by omega)
        generalize resN l xa xb = N1 at *
        generalize resD l xa xb = D1 at *
        generalize cmpR N1 D1 ln ld = K1 at *
        generalize cmpR N1 D1 hn1 hd = K2 at *
        have C5' := Lib.hid (c5 w6 ((HX.out.below HB6.out).more HB6.out.size))
        have C6 := Lib.hid c6
        have C7 := Lib.hid c7
        obtain ⟨r0, -⟩ := HR6.out.2 0 _ rfl
        obtain ⟨r1, -⟩ := HR6.out.2 1 _ rfl
        have hrz := HR6.out.1
        clear c5 c6 c7 HNX HYX
        go_wp2_with fail
        refine C5'.out.mono ?_
        rintro e w7 ⟨rfl, hb7⟩
        have HA7 := Lib.hid ((HA6.out.below hb7 HA6.out.1).alloc (.cells #[.int .i64 N1, .int .i64 D1] 39))
        have HR7 := Lib.hid ((HR6.out.later hb7).alloc (.cells #[.int .i64 N1, .int .i64 D1] 39))
        have hB7 := HB6.out.trans (hb7.mono HB6.out.size)
        have HB7 := Lib.hid (hB7.alloc hB7.size (.cells #[.int .i64 N1, .int .i64 D1] 39))
        have HF7 := Lib.hid (CA.new w7 [.int .i64 N1, .int .i64 D1] 39)
        have hrz7 : RB < w7.heap.size := Nat.lt_of_lt_of_le hrz hb7.size
        clear hb7 hB7 r0 r1 hrz HA6 HR6 HB6
        go_upto_region 8 with fail
        generalize (w7.alloc (.cells #[.int .i64 N1, .int .i64 D1] 39)) = w8 at *
        generalize w7.heap.size = F at *
        obtain ⟨f0, -⟩ := HF7.out.2 0 _ rfl
        obtain ⟨f1, -⟩ := HF7.out.2 1 _ rfl
        obtain ⟨r2, -⟩ := HR7.out.2 2 _ rfl
        obtain ⟨r3, -⟩ := HR7.out.2 3 _ rfl
        obtain ⟨r4, -⟩ := HR7.out.2 4 _ rfl
        obtain ⟨r5, -⟩ := HR7.out.2 5 _ rfl
        have hfz := HF7.out.1
        have hrz := HR7.out.1
        by_cases hk1' : K1 < 0
        · have HFN := Lib.hid (HNY.out (by rw [decide_eq_false (by omega), Bool.false_and]))
          clear HNY HYY
          go_wp2_with fail
          refine (C6.out _).mono ?_
          rintro e w9 ⟨rfl, hb9⟩
          have HB9 := Lib.hid (HB7.out.trans (hb9.mono HB7.out.size))
          clear hb9 HB7
          go_wp2_with fail
          go_ret
          exact ⟨ret_bool HFN.out, HB9.out⟩
        · by_cases hk2' : 0 < K2
          · have HFN := Lib.hid (HNY.out (by rw [decide_eq_false (show ¬ K2 ≤ 0 by omega), Bool.and_false]))
            clear HNY HYY
            go_wp2_with fail
            refine (C6.out _).mono ?_
            rintro e w9 ⟨rfl, hb9⟩
            have HB9 := Lib.hid (HB7.out.trans (hb9.mono HB7.out.size))
            have HF9 := Lib.hid (HF7.out.later hb9)
            have HR9 := Lib.hid (HR7.out.later hb9)
            clear hb9 HB7 HF7 HR7 f0 f1 r2 r3 r4 r5
            obtain ⟨f0, -⟩ := HF9.out.2 0 _ rfl
            obtain ⟨f1, -⟩ := HF9.out.2 1 _ rfl
            obtain ⟨r4, -⟩ := HR9.out.2 4 _ rfl
            obtain ⟨r5, -⟩ := HR9.out.2 5 _ rfl
            have hfz := HF9.out.1
            have hrz := HR9.out.1
            go_wp2_with fail
            refine (C7.out _).mono ?_
            rintro e w10 ⟨rfl, hb10⟩
            have HB10 := Lib.hid (HB9.out.trans (hb10.mono HB9.out.size))
            clear hb10 HB9
            go_wp2_with fail
            go_ret
            exact ⟨ret_bool HFN.out, HB10.out⟩
          · have HTN := Lib.hid (HYY.out (by rw [decide_eq_true (show 0 ≤ K1 by omega), decide_eq_true (show K2 ≤ 0 by omega)]; rfl))
            clear HNY HYY
            go_wp2_with fail
            refine (C6.out _).mono ?_
            rintro e w9 ⟨rfl, hb9⟩
            have HB9 := Lib.hid (HB7.out.trans (hb9.mono HB7.out.size))
            have HA9 := Lib.hid (HA7.out.below hb9 HA7.out.1)
            have HF9 := Lib.hid (HF7.out.later hb9)
            have HR9 := Lib.hid (HR7.out.later hb9)
            clear hb9 HB7 HF7 HR7 f0 f1 r2 r3 r4 r5 HA7
            obtain ⟨f0, -⟩ := HF9.out.2 0 _ rfl
            obtain ⟨f1, -⟩ := HF9.out.2 1 _ rfl
            obtain ⟨r4, -⟩ := HR9.out.2 4 _ rfl
            obtain ⟨r5, -⟩ := HR9.out.2 5 _ rfl
            have hfz := HF9.out.1
            have hrz := HR9.out.1
            go_wp2_with fail
            refine (C7.out _).mono ?_
            rintro e w10 ⟨rfl, hb10⟩
            have HB10 := Lib.hid (HB9.out.trans (hb10.mono HB9.out.size))
            have HA10 := Lib.hid (HA9.out.below hb10 HA9.out.1)
            clear hb10 HB9 HA9
            go_wp2_with fail
            go_roundw
            case rel => exact ⟨k + 1, by omega, by go_num, HTN, HA10, HB10⟩
            case measure => simp [intOf]; omega
      · have HFN := Lib.hid (HNX.out (by rw [decide_eq_false hxy, Bool.false_and, Bool.false_and]))
        have hxy' : (x == y) = false := by simpa using hxy
        clear HNX HYX c5
        go_wp2_with fail
        go_ret
        exact ⟨ret_bool HFN.out, HB6.out⟩
    · have hkn : k = m := by omega
      have hk1 : ¬ (k : Int) < m := by omega
      have HF := Lib.hid (HYES.out (by rw [← hkn]; exact HT.out))
      clear HT HA
      go_wp2_with fail
      go_ret
      exact ⟨ret_bool HF.out, HB.out⟩
end Go.Proofs.Ytloogollfconpaa

namespace Go.Proofs.Ytloogollfconpaa
open Go.RowKit
attribute [local go_sem] Later.cell Same.cell

def fitV (n : Int) (l : List Tp) (r : List Rd) : Bool := decide (rdE n l r = 0) && fitB l r
set_option maxRecDepth 20000 in
set_option maxHeartbeats 8000000 in
theorem Fits_any (n : Int) (A : Option Addr) (len cap : Nat) (l : List Tp) (A' : Option Addr) (m cap' : Nat) (r : List Rd) (w : World) (hm : len ≤ 9223372036854775807) (hm' : m ≤ 9223372036854775807) (hx : Rows 3 int3 (0,0,0) w w.heap.size A len l) (hy : Rows 6 rd6 rd0 w w.heap.size A' m r)
    (bd : ∀ k, k < m → (b64 (rdA r k).2.2.1 ∧ b64 (rdA r k).2.2.2.1) ∧ b64 (rdA r k).2.2.2.2.1 ∧ b64 (rdA r k).2.2.2.2.2) :
    Calls Try.prog 6 #[.int .i64 n, .slice A len cap, .slice A' m cap'] w fun e w' => e = .returned (.tuple #[.bool (fitV n l r), .int .i64 (rdE n l r)]) ∧ Below w.heap.size w w' := by
  have c1 := readings_any n A len cap l A' m cap' r w hm hm' hx hy bd
  have hV : fitV n l r = (decide (rdE n l r = 0) && fitB l r) := rfl
  have hrl := hy.1
  by_cases h0 : rdE n l r = 0
  · obtain ⟨hv, h20, -⟩ := rdE_zero h0
    have hrs := rdE_rs h0
    have c2 := fun W (h : Below w.heap.size w W) => fits_any n A len cap l A' m cap' r W hv hrs (by omega) ((hx.below h).more h.size) ((hy.below h).more h.size)
    rw [h0, decide_eq_true rfl, Bool.true_and] at hV
    rw [h0] at c1
    rw [hV, h0]
    have C1 := Lib.hid c1
    have C2 := Lib.hid c2
    clear c1 c2 hV h0 hv h20 hrs hx hy bd hrl
    go_enter Try.func6, Try.ntmps6
    go_wp2_with fail
    refine C1.out.mono ?_
    rintro e w1 ⟨rfl, hb1⟩
    have HB1 := Lib.hid hb1
    clear hb1
    go_wp2_with fail
    refine (C2.out _ HB1.out).mono ?_
    rintro e w2 ⟨rfl, hb2⟩
    have HB2 := Lib.hid (HB1.out.trans (hb2.mono HB1.out.size))
    clear hb2
    go_wp2_with fail
    go_ret2
    exact ⟨rfl, HB2.out⟩
  · rw [decide_eq_false h0, Bool.false_and] at hV
    rw [hV]
    have hne : (rdE n l r == 0) = false := by simpa using h0
    generalize rdE n l r = E at *
    have C1 := Lib.hid c1
    clear c1 hV h0 hx hy bd hrl
    go_enter Try.func6, Try.ntmps6
    go_wp2_with fail
    refine C1.out.mono ?_
    rintro e w1 ⟨rfl, hb1⟩
    have HB1 := Lib.hid hb1
    clear hb1
    go_wp2_with fail
    go_ret2
    exact ⟨rfl, HB1.out⟩
set_option maxRecDepth 20000 in
set_option maxHeartbeats 8000000 in
theorem Broken_any (n : Int) (A : Option Addr) (len cap : Nat) (l : List Tp) (A' : Option Addr) (m cap' : Nat) (r : List Rd) (w : World) (hm : len ≤ 9223372036854775807) (hm' : m ≤ 9223372036854775807) (hx : Rows 3 int3 (0,0,0) w w.heap.size A len l) (hy : Rows 6 rd6 rd0 w w.heap.size A' m r)
    (bd : ∀ k, k < m → (b64 (rdA r k).2.2.1 ∧ b64 (rdA r k).2.2.2.1) ∧ b64 (rdA r k).2.2.2.2.1 ∧ b64 (rdA r k).2.2.2.2.2) :
    Calls Try.prog 8 #[.int .i64 n, .slice A len cap, .slice A' m cap'] w fun e w' => (∃ v, e = .returned (.tuple #[v, .int .i64 (brkE n l r)]) ∧ w'.ownsRow w.heap.size 3 1 v (brkL n l r).length (icells (brkL n l r))) ∧ Below w.heap.size w w' := by
  have c1 := readings_any n A len cap l A' m cap' r w hm hm' hx hy bd
  have hE : brkE n l r = if rdE n l r = 0 then (if fitB l r then 10 else 0) else rdE n l r := rfl
  have hL : brkL n l r = if brkE n l r = 0 then brkR l r l.length else [] := rfl
  have hrl := hy.1
  have hll := hx.1
  by_cases h0 : rdE n l r = 0
  · obtain ⟨hv, h20, -⟩ := rdE_zero h0
    have hrs := rdE_rs h0
    have hlen := (vNet_spec hv).2.1
    rw [hll] at hlen
    have c2 := fun W (h : Below w.heap.size w W) => fits_any n A len cap l A' m cap' r W hv hrs (by omega) ((hx.below h).more h.size) ((hy.below h).more h.size)
    rw [h0, if_pos rfl] at hE
    rw [h0] at c1
    cases hf : fitB l r
    · rw [hf] at hE c2
      rw [if_neg (by decide)] at hE
      rw [hE, if_pos rfl, hll] at hL
      rw [hE, hL]
      have c3 := fun i W (hi : i < len) (h : Below w.heap.size w W) => without_any A len cap l i W hi (by omega) ((hx.below h).more h.size)
      have c4 := fun i A1 cap1 W (hi : i < len) (h : Below w.heap.size w W) (hp : Rows 3 int3 (0,0,0) W W.heap.size A1 (len - 1) (l.eraseIdx i)) => fits_any n A1 (len - 1) cap1 (l.eraseIdx i) A' m cap' r W (wvNet_erase hv i) hrs (by omega) hp ((hy.below h).more h.size)
      have hEL : ∀ i, i < len → (l.eraseIdx i).length = len - 1 := fun i hi => by rw [erase_len (by omega), hll]
      have hY := fun k h => brkR_yes (l := l) (r := r) (k := k) h
      have hN := fun k h => brkR_no (l := l) (r := r) (k := k) h
      have hbl := fun k => brkR_len l r k
      have hb0 : brkR l r 0 = [] := rfl
      have HB0 := Lib.hid hb0
      clear hb0
      obtain ⟨j0, hj, hy0, hy1, hy2⟩ := info_parts tinfo_int
      have hI0 := Lib.hid hj
      have hI1 := Lib.hid hy0
      have hI2 := Lib.hid hy1
      have hI3 := Lib.hid hy2
      have C1 := Lib.hid c1
      have C2 := Lib.hid c2
      have C3 := Lib.hid c3
      have C4 := Lib.hid c4
      have HEL := Lib.hid hEL
      have HYY := Lib.hid hY
      have HNN := Lib.hid hN
      have HBL := Lib.hid hbl
      generalize brkR l r = BR at *
      clear c1 c2 c3 c4 hE hL hEL hY hN hbl hj hy0 hy1 hy2 h0 hv h20 hrs hx hy bd hrl hf
      go_enter Try.func8, Try.ntmps8
      go_wp2_with fail
      refine C1.out.mono ?_
      rintro e w1 ⟨rfl, hb1⟩
      have HB1 := Lib.hid hb1
      clear hb1
      go_wp2_with fail
      refine (C2.out _ HB1.out).mono ?_
      rintro e w2 ⟨rfl, hb2⟩
      have HB2 := Lib.hid (HB1.out.trans (hb2.mono HB1.out.size))
      clear hb2 HB1
      go_wp2_with fail
      go_loopw [9, 23] (fun v i' W => ∃ k : Nat, k ≤ len ∧ i' = .int .i64 (k : Int) ∧ Hid (W.ownsRow w2.heap.size 3 1 v (BR k).length (icells (BR k))) ∧ Hid (Below w2.heap.size w2 W)) (fun _ i' _ => len - (intOf i').toNat)
      case atStart => exact ⟨0, Nat.zero_le _, rfl, Lib.hid (by rw [HB0.out]; exact World.ownsRow_nil _ _ _ _), Lib.hid (Below.refl _ _)⟩
      case round =>
        obtain ⟨k, hk, rfl, HO, HB⟩ := hrel
        have hbs := HB.out.size
        have HBw := Lib.hid (HB2.out.trans (HB.out.mono HB2.out.size))
        by_cases hlt : k < len
        · have hk1 : (k : Int) < len := by omega
          have c3 := C3.out k wr hlt HBw.out
          rw [HEL.out k hlt] at c3
          have C3' := Lib.hid c3
          have hbk := HBL.out k
          have hno := HNN.out k
          have hyes := HYY.out k
          have c4 := fun A1 cap1 W => C4.out k A1 cap1 W hlt
          have C4' := Lib.hid c4
          clear c3 c4
          go_wp2_with fail
          refine C3'.out.mono ?_
          rintro e w4 ⟨⟨v4, rfl, ho4⟩, hb4⟩
          obtain ⟨A1, cap1, rfl, hq1, hq2, hP, -⟩ := own_tapes ho4
          have HP := Lib.hid hP
          have HO4 := Lib.hid (town_later HO.out hb4)
          have HB4 := Lib.hid (HB.out.trans (hb4.mono hbs))
          have HBw4 := Lib.hid (HBw.out.trans (hb4.mono HBw.out.size))
          clear ho4 hP hb4 HO HB C3'
          go_wp2_with fail
          refine (C4'.out _ _ _ HBw4.out HP.out).mono ?_
          rintro e w5 ⟨rfl, hb5⟩
          have HO5 := Lib.hid (town_later HO4.out hb5)
          have HB5 := Lib.hid (HB4.out.trans (hb5.mono HB4.out.size))
          have hbs5 := HB5.out.size
          clear hb5 HO4 HB4 HBw4 HP C4'
          cases hfk : fitB (l.eraseIdx k) r
          · have HN := Lib.hid (hno hfk)
            clear hno hyes hfk
            go_wp2_with fail
            go_roundw
            case rel => exact ⟨k + 1, by omega, by go_num, Lib.hid (by rw [HN.out]; exact HO5.out), HB5⟩
            case measure => simp [intOf]; omega
          · have HY := Lib.hid (hyes hfk)
            clear hno hyes hfk
            go_wp2_with (at_builtin; go_loud (refine wpList_append_own _ rfl (.tmp 31) (.tmp 33) 31 rfl w2.heap.size 3 j0 (.int .i64 0) 1 8 Try.underlying31 hI0.out hI1.out hI2.out hI3.out rfl (by decide) _ _ _ rfl (HO5.out.alloc _) ⟨w5.heap.size, 0, none⟩ 1 1 [.int .i64 (k : Int)] rfl rfl (tnews1 _ _ _) (tone1 _) (by unfold maxLen; omega) (by omega) (by simp; omega) ?_); intro v8 w8 hown8 hgrow8 _)
            have hb9 : Below w2.heap.size (w5.alloc (.cells #[.int .i64 (k : Int)] 3)) w8 := grown_below hgrow8 (by simp; omega) (fun q hq => ((HO5.out.alloc (.cells #[.int .i64 (k : Int)] 3)).lt q hq).1)
            have HB10 := Lib.hid ((HB5.out.alloc hbs5 (.cells #[.int .i64 (k : Int)] 3)).trans hb9)
            have HR2 : Hid (w8.ownsRow w2.heap.size 3 1 v8 (BR (k + 1)).length (icells (BR (k + 1)))) := Lib.hid (by rw [HY.out, List.length_append, icells_app]; exact hown8)
            clear hown8 hgrow8 hb9 HO5 HB5
            go_wp2_with fail
            go_roundw
            case rel => exact ⟨k + 1, by omega, by go_num, HR2, HB10⟩
            case measure => simp [intOf]; omega
        · have hkn : k = len := by omega
          have hk1 : ¬ (k : Int) < len := by omega
          have HF := Lib.hid (town_mono HO.out HB2.out.size)
          rw [hkn] at HF
          clear HO HB
          go_wp2_with fail
          go_ret2
          exact ⟨⟨_, rfl, HF.out⟩, HBw.out⟩
    · rw [hf] at hE c2
      rw [if_pos rfl] at hE
      rw [hE, if_neg (by decide)] at hL
      rw [hE, hL]
      have C1 := Lib.hid c1
      have C2 := Lib.hid c2
      clear c1 c2 hE hL h0 hv h20 hrs hx hy bd hrl hf
      go_enter Try.func8, Try.ntmps8
      go_wp2_with fail
      refine C1.out.mono ?_
      rintro e w1 ⟨rfl, hb1⟩
      have HB1 := Lib.hid hb1
      clear hb1
      go_wp2_with fail
      refine (C2.out _ HB1.out).mono ?_
      rintro e w2 ⟨rfl, hb2⟩
      have HB2 := Lib.hid (HB1.out.trans (hb2.mono HB1.out.size))
      clear hb2
      go_wp2_with fail
      go_ret2
      exact ⟨⟨.slice none 0 0, rfl, World.ownsRow_nil _ _ _ _⟩, HB2.out⟩
  · rw [if_neg h0] at hE
    rw [hE, if_neg h0] at hL
    rw [hE, hL]
    have hne : (rdE n l r == 0) = false := by simpa using h0
    generalize rdE n l r = E at *
    have C1 := Lib.hid c1
    clear c1 hE hL h0 hx hy bd hrl
    go_enter Try.func8, Try.ntmps8
    go_wp2_with fail
    refine C1.out.mono ?_
    rintro e w1 ⟨rfl, hb1⟩
    have HB1 := Lib.hid hb1
    clear hb1
    go_wp2_with fail
    go_ret2
    exact ⟨⟨.slice none 0 0, rfl, World.ownsRow_nil _ _ _ _⟩, HB1.out⟩
end Go.Proofs.Ytloogollfconpaa

namespace Go.Proofs.Ytloogollfconpaa
open Go.RowKit
attribute [local go_sem] Later.cell Same.cell

set_option maxRecDepth 20000 in
set_option maxHeartbeats 16000000 in
theorem rreadE_any (n : Int) (A : Option Addr) (len cap : Nat) (l : List Tp) (A' : Option Addr) (m cap' : Nat) (r : List Rd) (w : World) (hm : len ≤ 9223372036854775807) (hm' : m ≤ 9223372036854775807) (hx : Rows 3 int3 (0,0,0) w w.heap.size A len l) (hy : Rows 6 rd6 rd0 w w.heap.size A' m r)
    (bd : ∀ k, k < m → (b64 (rdA r k).2.2.1 ∧ b64 (rdA r k).2.2.2.1) ∧ b64 (rdA r k).2.2.2.2.1 ∧ b64 (rdA r k).2.2.2.2.2) :
    Calls Try.prog 15 #[.int .i64 n, .slice A len cap, .slice A' m cap'] w fun e w' => e = .returned (.int .i64 (rdE n l r)) ∧ Below w.heap.size w w' := by
  have c1 := rValid_any n A len cap l w hm hx
  have hE : rdE n l r = if vNet n l then (if 20 < r.length then 7 else if (List.range r.length).all (fun k => okRd n l (rdA r k)) then 0 else 7) else 1 := rfl
  have hrl := hy.1
  rw [hrl] at hE
  cases hv : vNet n l
  · rw [hv, if_neg (by decide)] at hE
    rw [hv] at c1
    rw [hE]
    have C1 := Lib.hid c1
    clear c1 hx hy hv hE bd
    go_enter Try.func15, Try.ntmps15
    go_wp2_with fail
    refine C1.out.mono ?_
    rintro e w1 ⟨rfl, hb1⟩
    have HB1 := Lib.hid hb1
    clear hb1
    go_wp2_with fail
    go_ret
    exact ⟨rfl, HB1.out⟩
  · rw [hv, if_pos rfl] at hE
    rw [hv] at c1
    by_cases h20 : 20 < m
    · rw [if_pos h20] at hE
      rw [hE]
      have h20' : (20 : Int) < m := by omega
      have C1 := Lib.hid c1
      clear c1 hx hy hv hE bd
      go_enter Try.func15, Try.ntmps15
      go_wp2_with fail
      refine C1.out.mono ?_
      rintro e w1 ⟨rfl, hb1⟩
      have HB1 := Lib.hid hb1
      clear hb1
      go_wp2_with fail
      go_ret
      exact ⟨rfl, HB1.out⟩
    · rw [if_neg h20] at hE
      have h20' : ¬ (20 : Int) < m := by omega
      have c2 := fun a b W (h : Below w.heap.size w W) => pairE_any n A len cap l a b W hm ((hx.below h).more h.size)
      have hask : ∀ x : Rd, askE n l [x.1, x.2.1] = if allW n [x.1, x.2.1] then 0 else 7 := fun x => by unfold askE; rw [hv]; rfl
      obtain ⟨R, hR⟩ : ∃ R, R = rdE n l r := ⟨_, rfl⟩
      rw [← hR]
      rw [← hR] at hE
      have C1 := Lib.hid c1
      have C2 := Lib.hid c2
      have HE := Lib.hid hE
      have HAK := Lib.hid hask
      have HX := Lib.hid hx
      have HY := Lib.hid hy
      have BD := Lib.hid bd
      clear c1 c2 hx hy hv hE bd hask hR
      go_enter Try.func15, Try.ntmps15
      go_wp2_with fail
      refine C1.out.mono ?_
      rintro e w1 ⟨rfl, hb1⟩
      have HB1 := Lib.hid hb1
      clear hb1
      go_wp2_with fail
      go_loopw [7] (fun i' W => ∃ k : Nat, k ≤ m ∧ i' = .int .i64 (k : Int) ∧ Hid ((List.range k).all (fun k => okRd n l (rdA r k)) = true) ∧ Hid (Below w.heap.size w W)) (fun i' _ => m - (intOf i').toNat)
      case atStart => exact ⟨0, Nat.zero_le _, rfl, Lib.hid rfl, HB1⟩
      case round =>
        clear HB1
        obtain ⟨k, hk, rfl, HT, HB⟩ := hrel
        by_cases hlt : k < m
        · obtain ⟨b, off, rfl, hb0, q0, q1, q2, q3, q4, q5⟩ := rows_at6r (HY.out.below HB.out) k hlt
          have hbs := HB.out.size
          have hb1 : b < wr.heap.size := by omega
          have hk1 : (k : Int) < m := by omega
          have hk2 : ¬ m ≤ k := by omega
          have bdk := BD.out k hlt
          have hno : okRd n l (rdA r k) = false → 7 = R := fun h => by rw [HE.out, if_neg (by rw [allR_no hlt h]; decide)]
          have hyes : okRd n l (rdA r k) = true → (List.range (k + 1)).all (fun k => okRd n l (rdA r k)) = true := fun h => allR_next HT.out h
          have hrk : okRd n l (rdA r k) = (((allW n [(rdA r k).1, (rdA r k).2.1] && (withinB (rdA r k).2.2.2.1 1 1000000000 && withinB (rdA r k).2.2.1 0 1000000000)) && (withinB (rdA r k).2.2.2.2.2 1 1000000000 && withinB (rdA r k).2.2.2.2.1 0 1000000000)) && decide (cmpR (rdA r k).2.2.1 (rdA r k).2.2.2.1 (rdA r k).2.2.2.2.1 (rdA r k).2.2.2.2.2 ≤ 0)) := rfl
          rw [hrk] at hno hyes
          clear hrk
          have hak := HAK.out (rdA r k)
          generalize rdA r k = X at *
          obtain ⟨xa, xb, ln, ld, hn, hd⟩ := X
          dsimp only at *
          obtain ⟨⟨⟨x1, x2⟩, x3, x4⟩, ⟨x5, x6⟩, x7, x8⟩ := bdk
          have c3 := C2.out xa xb (wr.alloc (.cells #[.int .i64 xa, .int .i64 xb, .int .i64 ln, .int .i64 ld, .int .i64 hn, .int .i64 hd] 57)) (HB.out.alloc HB.out.size _)
          rw [hak] at c3
          have c4 := fun W => uwithin_any ld 1 1000000000 W
          have c5 := fun W => uwithin_any hd 1 1000000000 W
          have c6 := fun W => uwithin_any ln 0 1000000000 W
          have c7 := fun W => uwithin_any hn 0 1000000000 W
          have c8 := fun W => Compare_any ln ld hn hd W x1 x2 x3 x4 x5 x6 x7 x8
          generalize cmpR ln ld hn hd = CC at *
          generalize allW n [xa, xb] = b1 at *
          generalize withinB ld 1 1000000000 = b2 at *
          generalize withinB hd 1 1000000000 = b3 at *
          generalize withinB ln 0 1000000000 = b4 at *
          generalize withinB hn 0 1000000000 = b5 at *
          have HRB := Lib.hid ((CA.new wr [.int .i64 xa, .int .i64 xb, .int .i64 ln, .int .i64 ld, .int .i64 hn, .int .i64 hd] 57))
          have HB3 := Lib.hid (HB.out.alloc HB.out.size (.cells #[.int .i64 xa, .int .i64 xb, .int .i64 ln, .int .i64 ld, .int .i64 hn, .int .i64 hd] 57))
          have HNO := Lib.hid hno
          have HYES := Lib.hid hyes
          clear hno hyes HT HB hak
          cases b1 with
          | false =>
            have HFN := Lib.hid (HNO.out (by simp))
            have C3 := Lib.hid c3
            have C4 := Lib.hid c4
            have C5 := Lib.hid c5
            have C6 := Lib.hid c6
            have C7 := Lib.hid c7
            have C8 := Lib.hid c8
            clear c3 c4 c5 c6 c7 c8 HNO HYES
            go_wp2_with fail
            refine C3.out.mono ?_
            rintro e w4 ⟨rfl, hb4⟩
            have HB4 := Lib.hid (HB3.out.trans (hb4.mono HB3.out.size))
            have HR := Lib.hid (HRB.out.later hb4)
            clear hb4 HB3 HRB C3
            go_wp2_with fail
            go_ret
            exact ⟨ret_int HFN.out, HB4.out⟩
          | true =>
            cases b2 with
            | false =>
              have HFN := Lib.hid (HNO.out (by simp))
              have C3 := Lib.hid c3
              have C4 := Lib.hid c4
              have C5 := Lib.hid c5
              have C6 := Lib.hid c6
              have C7 := Lib.hid c7
              have C8 := Lib.hid c8
              clear c3 c4 c5 c6 c7 c8 HNO HYES
              go_wp2_with fail
              refine C3.out.mono ?_
              rintro e w4 ⟨rfl, hb4⟩
              have HB4 := Lib.hid (HB3.out.trans (hb4.mono HB3.out.size))
              have HR := Lib.hid (HRB.out.later hb4)
              clear hb4 HB3 HRB C3
              obtain ⟨r2, -⟩ := HR.out.2 2 _ rfl
              obtain ⟨r3, -⟩ := HR.out.2 3 _ rfl
              obtain ⟨r4, -⟩ := HR.out.2 4 _ rfl
              obtain ⟨r5, -⟩ := HR.out.2 5 _ rfl
              have rz := HR.out.1
              generalize wr.heap.size = RB at *
              go_wp2_with fail
              refine (C4.out _).mono ?_
              rintro e w12 ⟨rfl, rfl⟩
              go_wp2_with fail
              go_ret
              exact ⟨ret_int HFN.out, HB4.out⟩
            | true =>
              cases b3 with
              | false =>
                have HFN := Lib.hid (HNO.out (by simp))
                have C3 := Lib.hid c3
                have C4 := Lib.hid c4
                have C5 := Lib.hid c5
                have C6 := Lib.hid c6
                have C7 := Lib.hid c7
                have C8 := Lib.hid c8
                clear c3 c4 c5 c6 c7 c8 HNO HYES
                go_wp2_with fail
                refine C3.out.mono ?_
                rintro e w4 ⟨rfl, hb4⟩
                have HB4 := Lib.hid (HB3.out.trans (hb4.mono HB3.out.size))
                have HR := Lib.hid (HRB.out.later hb4)
                clear hb4 HB3 HRB C3
                obtain ⟨r2, -⟩ := HR.out.2 2 _ rfl
                obtain ⟨r3, -⟩ := HR.out.2 3 _ rfl
                obtain ⟨r4, -⟩ := HR.out.2 4 _ rfl
                obtain ⟨r5, -⟩ := HR.out.2 5 _ rfl
                have rz := HR.out.1
                generalize wr.heap.size = RB at *
                go_wp2_with fail
                refine (C4.out _).mono ?_
                rintro e w12 ⟨rfl, rfl⟩
                go_wp2_with fail
                refine (C5.out _).mono ?_
                rintro e w13 ⟨rfl, rfl⟩
                go_wp2_with fail
                go_ret
                exact ⟨ret_int HFN.out, HB4.out⟩
              | true =>
                cases b4 with
                | false =>
                  have HFN := Lib.hid (HNO.out (by simp))
                  have C3 := Lib.hid c3
                  have C4 := Lib.hid c4
                  have C5 := Lib.hid c5
                  have C6 := Lib.hid c6
                  have C7 := Lib.hid c7
                  have C8 := Lib.hid c8
                  clear c3 c4 c5 c6 c7 c8 HNO HYES
                  go_wp2_with fail
                  refine C3.out.mono ?_
                  rintro e w4 ⟨rfl, hb4⟩
                  have HB4 := Lib.hid (HB3.out.trans (hb4.mono HB3.out.size))
                  have HR := Lib.hid (HRB.out.later hb4)
                  clear hb4 HB3 HRB C3
                  obtain ⟨r2, -⟩ := HR.out.2 2 _ rfl
                  obtain ⟨r3, -⟩ := HR.out.2 3 _ rfl
                  obtain ⟨r4, -⟩ := HR.out.2 4 _ rfl
                  obtain ⟨r5, -⟩ := HR.out.2 5 _ rfl
                  have rz := HR.out.1
                  generalize wr.heap.size = RB at *
                  go_wp2_with fail
                  refine (C4.out _).mono ?_
                  rintro e w12 ⟨rfl, rfl⟩
                  go_wp2_with fail
                  refine (C5.out _).mono ?_
                  rintro e w13 ⟨rfl, rfl⟩
                  go_wp2_with fail
                  refine (C6.out _).mono ?_
                  rintro e w14 ⟨rfl, rfl⟩
                  go_wp2_with fail
                  go_ret
                  exact ⟨ret_int HFN.out, HB4.out⟩
                | true =>
                  cases b5 with
                  | false =>
                    have HFN := Lib.hid (HNO.out (by simp))
                    have C3 := Lib.hid c3
                    have C4 := Lib.hid c4
                    have C5 := Lib.hid c5
                    have C6 := Lib.hid c6
                    have C7 := Lib.hid c7
                    have C8 := Lib.hid c8
                    clear c3 c4 c5 c6 c7 c8 HNO HYES
                    go_wp2_with fail
                    refine C3.out.mono ?_
                    rintro e w4 ⟨rfl, hb4⟩
                    have HB4 := Lib.hid (HB3.out.trans (hb4.mono HB3.out.size))
                    have HR := Lib.hid (HRB.out.later hb4)
                    clear hb4 HB3 HRB C3
                    obtain ⟨r2, -⟩ := HR.out.2 2 _ rfl
                    obtain ⟨r3, -⟩ := HR.out.2 3 _ rfl
                    obtain ⟨r4, -⟩ := HR.out.2 4 _ rfl
                    obtain ⟨r5, -⟩ := HR.out.2 5 _ rfl
                    have rz := HR.out.1
                    generalize wr.heap.size = RB at *
                    go_wp2_with fail
                    refine (C4.out _).mono ?_
                    rintro e w12 ⟨rfl, rfl⟩
                    go_wp2_with fail
                    refine (C5.out _).mono ?_
                    rintro e w13 ⟨rfl, rfl⟩
                    go_wp2_with fail
                    refine (C6.out _).mono ?_
                    rintro e w14 ⟨rfl, rfl⟩
                    go_wp2_with fail
                    refine (C7.out _).mono ?_
                    rintro e w15 ⟨rfl, rfl⟩
                    go_wp2_with fail
                    go_ret
                    exact ⟨ret_int HFN.out, HB4.out⟩
                  | true =>
                    by_cases hC : 0 < CC
                    · skip
                      have HFN := Lib.hid (HNO.out (by simp [hC]))
                      have C3 := Lib.hid c3
                      have C4 := Lib.hid c4
                      have C5 := Lib.hid c5
                      have C6 := Lib.hid c6
                      have C7 := Lib.hid c7
                      have C8 := Lib.hid c8
                      clear c3 c4 c5 c6 c7 c8 HNO HYES
                      go_wp2_with fail
                      refine C3.out.mono ?_
                      rintro e w4 ⟨rfl, hb4⟩
                      have HB4 := Lib.hid (HB3.out.trans (hb4.mono HB3.out.size))
                      have HR := Lib.hid (HRB.out.later hb4)
                      clear hb4 HB3 HRB C3
                      obtain ⟨r2, -⟩ := HR.out.2 2 _ rfl
                      obtain ⟨r3, -⟩ := HR.out.2 3 _ rfl
                      obtain ⟨r4, -⟩ := HR.out.2 4 _ rfl
                      obtain ⟨r5, -⟩ := HR.out.2 5 _ rfl
                      have rz := HR.out.1
                      generalize wr.heap.size = RB at *
                      go_wp2_with fail
                      refine (C4.out _).mono ?_
                      rintro e w12 ⟨rfl, rfl⟩
                      go_wp2_with fail
                      refine (C5.out _).mono ?_
                      rintro e w13 ⟨rfl, rfl⟩
                      go_wp2_with fail
                      refine (C6.out _).mono ?_
                      rintro e w14 ⟨rfl, rfl⟩
                      go_wp2_with fail
                      refine (C7.out _).mono ?_
                      rintro e w15 ⟨rfl, rfl⟩
                      go_wp2_with fail
                      refine (C8.out _).mono ?_
                      rintro e w5 ⟨rfl, hb5⟩
                      have HB5 := Lib.hid (HB4.out.trans (hb5.mono HB4.out.size))
                      clear hb5
                      go_wp2_with fail
                      go_ret
                      exact ⟨ret_int HFN.out, HB5.out⟩
                    · skip
                      have HTN := Lib.hid (HYES.out (by simp; omega))
                      have C3 := Lib.hid c3
                      have C4 := Lib.hid c4
                      have C5 := Lib.hid c5
                      have C6 := Lib.hid c6
                      have C7 := Lib.hid c7
                      have C8 := Lib.hid c8
                      clear c3 c4 c5 c6 c7 c8 HNO HYES
                      go_wp2_with fail
                      refine C3.out.mono ?_
                      rintro e w4 ⟨rfl, hb4⟩
                      have HB4 := Lib.hid (HB3.out.trans (hb4.mono HB3.out.size))
                      have HR := Lib.hid (HRB.out.later hb4)
                      clear hb4 HB3 HRB C3
                      obtain ⟨r2, -⟩ := HR.out.2 2 _ rfl
                      obtain ⟨r3, -⟩ := HR.out.2 3 _ rfl
                      obtain ⟨r4, -⟩ := HR.out.2 4 _ rfl
                      obtain ⟨r5, -⟩ := HR.out.2 5 _ rfl
                      have rz := HR.out.1
                      generalize wr.heap.size = RB at *
                      go_wp2_with fail
                      refine (C4.out _).mono ?_
                      rintro e w12 ⟨rfl, rfl⟩
                      go_wp2_with fail
                      refine (C5.out _).mono ?_
                      rintro e w13 ⟨rfl, rfl⟩
                      go_wp2_with fail
                      refine (C6.out _).mono ?_
                      rintro e w14 ⟨rfl, rfl⟩
                      go_wp2_with fail
                      refine (C7.out _).mono ?_
                      rintro e w15 ⟨rfl, rfl⟩
                      go_wp2_with fail
                      refine (C8.out _).mono ?_
                      rintro e w5 ⟨rfl, hb5⟩
                      have HB5 := Lib.hid (HB4.out.trans (hb5.mono HB4.out.size))
                      clear hb5
                      go_wp2_with fail
                      go_roundw
                      case rel => exact ⟨k + 1, by omega, by go_num, HTN, HB5⟩
                      case measure => simp [intOf]; omega
        · have hkn : k = m := by omega
          have hfin : Hid (0 = R) := Lib.hid (by rw [HE.out, ← hkn, if_pos HT.out])
          have hk1 : ¬ (k : Int) < m := by omega
          clear HT
          go_wp2_with fail
          go_ret
          exact ⟨ret_int hfin.out, HB.out⟩
end Go.Proofs.Ytloogollfconpaa

namespace Go.Proofs.Ytloogollfconpaa
open Go.RowKit
attribute [local go_sem] Later.cell Same.cell

/-- A pointer to the block b. -/
def isPr (v : Value) (b : Nat) : Prop := v = .pointer (some ⟨b, 0, none⟩)
set_option maxRecDepth 20000 in
set_option maxHeartbeats 16000000 in
theorem rfits_any (N : Nat) (A : Option Addr) (len cap : Nat) (l : List Tp) (A' : Option Addr) (m cap' : Nat) (r : List Rd) (w : World) (hv : vNet N l = true) (hr : okRs N r) (hm' : m ≤ 20) (hx : Rows 3 int3 (0,0,0) w w.heap.size A len l) (hy : Rows 6 rd6 rd0 w w.heap.size A' m r) :
    Calls Try.prog 16 #[.int .i64 (N : Int), .slice A len cap, .slice A' m cap'] w fun e w' => e = .returned (.bool (fitB l r)) ∧ Below w.heap.size w w' := by
  obtain ⟨hn, hlen, hl⟩ := vNet_spec hv
  have hinn : inn N l := by have := vNet_inn hv; simpa using this
  have hll := hx.1
  have hrl := hy.1
  rw [hll] at hlen
  have c2 := fun (a : Int) (h0 : 0 ≤ a) (h1 : a < N) W (h : Below w.heap.size w W) => rpart_any N A len cap l a W (by omega) hlen ⟨h0, h1⟩ hinn ((hx.below h).more h.size)
  have c5 := fun (a b : Int) (h0 : 0 ≤ a) (h1 : a < N) (hb : nod b) W (h : Below w.heap.size w W) => rresist_any N A len cap l a b W hv ⟨h0, h1⟩ hb ((hx.below h).more h.size)
  have hbd := fun a b (ha : nod a) => res_bd (b := b) hl (by rw [hll]; exact hlen) ha
  have hno : ∀ k, k < m → fitO l (rdA r k) = false → false = fitB l r := fun k hk h => by unfold fitB; rw [hrl, allR_no hk h]
  have hyes := fun h => fit_true (l := l) hrl h
  have hO : ∀ x : Rd, (0 ≤ x.1 ∧ x.1 < N ∧ 0 ≤ x.2.1 ∧ x.2.1 < N) → fitO l x = ((sB (partL N l x.1) x.2.1 && decide (0 ≤ cmpR (resN l x.1 x.2.1) (resD l x.1 x.2.1) x.2.2.1 x.2.2.2.1)) && decide (cmpR (resN l x.1 x.2.1) (resD l x.1 x.2.1) x.2.2.2.2.1 x.2.2.2.2.2 ≤ 0)) := fun x hx => by
    have := part_jn hv ⟨hx.1, hx.2.1⟩ hx.2.2
    rw [Int.toNat_natCast] at this
    rw [this]; unfold fitO jnB; rw [Bool.beq_comm]
  generalize fitB l r = V at *
  have hr2 : ∀ k, k < m → _ := fun k hk => hr k (by omega)
  have C2 := Lib.hid c2
  have C5 := Lib.hid c5
  have HBD := Lib.hid hbd
  have HNO := Lib.hid hno
  have HYES := Lib.hid hyes
  have HO := Lib.hid hO
  have HY := Lib.hid hy
  have HRS := Lib.hid hr2
  clear c2 c5 hbd hno hyes hO hx hy hr hr2 hv hl hll hrl hinn
  go_enter Try.func16, Try.ntmps16
  go_wp2_with fail
  go_loopw [7] (fun i' W => ∃ k : Nat, k ≤ m ∧ i' = .int .i64 (k : Int) ∧ Hid ((List.range k).all (fun k => fitO l (rdA r k)) = true) ∧ Hid (Below w.heap.size w W)) (fun i' _ => m - (intOf i').toNat)
  case atStart => exact ⟨0, Nat.zero_le _, rfl, Lib.hid rfl, Lib.hid (Below.refl _ _)⟩
  case round =>
    obtain ⟨k, hk, rfl, HT, HBw⟩ := hrel
    by_cases hlt : k < m
    · obtain ⟨b, off, rfl, hb0, q0, q1, q2, q3, q4, q5⟩ := rows_at6r (HY.out.below HBw.out) k hlt
      have hbs := HBw.out.size
      have hb1 : b < wr.heap.size := by omega
      have hk1 : (k : Int) < m := by omega
      have hk2 : ¬ m ≤ k := by omega
      have hrs := HRS.out k hlt
      have hno := HNO.out k hlt
      have hyes := fun h => allR_next HT.out (f := fun k => fitO l (rdA r k)) (k := k) h
      have hO := HO.out (rdA r k) hrs.1
      rw [hO] at hno
      (try dsimp only at hyes)
      rw [hO] at hyes
      generalize rdA r k = X at *
      obtain ⟨xa, xb, ln, ld, hn1, hd⟩ := X
      dsimp only at *
      obtain ⟨⟨x1, x2, x3, x4⟩, ⟨x5, x6⟩, ⟨x7, x8⟩, ⟨x9, x10⟩, x11, x12⟩ := hrs
      have ha : nod xa := ⟨by omega, by omega⟩
      have hbn : nod xb := ⟨by omega, by omega⟩
      have hrb := HBD.out xa xb ha
      have c2 := fun W h => C2.out xa x1 x2 W h
      have c5 := fun W h => C5.out xa xb x1 x2 hbn W h
      have c6 := fun W => Compare_any (resN l xa xb) (resD l xa xb) ln ld W (by omega) (by omega) (by omega) (by omega) (by omega) (by omega) (by omega) (by omega)
      have c7 := fun W => Compare_any (resN l xa xb) (resD l xa xb) hn1 hd W (by omega) (by omega) (by omega) (by omega) (by omega) (by omega) (by omega) (by omega)
      generalize resN l xa xb = N1 at *
      generalize resD l xa xb = D1 at *
      generalize cmpR N1 D1 ln ld = K1 at *
      generalize cmpR N1 D1 hn1 hd = K2 at *
      have hS : ∀ b, b = sB (partL N l xa) xb → True := fun _ _ => trivial
      generalize hPL : partL N l xa = PL at *
      generalize hJ : sB PL xb = J at *
      have HJ := Lib.hid hJ
      have HNX := Lib.hid hno
      have HYX := Lib.hid hyes
      clear C2 C5
      have C2 := Lib.hid c2
      have C5 := Lib.hid c5
      have C6 := Lib.hid c6
      have C7 := Lib.hid c7
      clear c2 c5 c6 c7 hno hyes hO HT hS hPL hJ
      have xb6 : ¬ N ≤ xb.toNat := by omega
      go_upto_region 4 with fail
      go_cut [30] (fun s30 wc => s30 = .bool (!J) ∧ Below wr.heap.size wr wc)
      case first =>
        refine wp_region_mix (by kernel_rfl) (by kernel_rfl) ?_
        refine wpC_take (f := 4) (by kernel_rfl) (by kernel_rfl) ⟨⟨_, (Below.refl _ _).drew⟩, rfl⟩ [0, 1, 2, 3, 4, 5, 6, 8, 9, 10, 11, 12] _ _ (by kernel_rfl) ?_
        simp only [List.map_cons, List.map_nil, List.getElem?_toArray, List.getElem?_cons_succ, List.getElem?_cons_zero, Option.getD_some]
        repeat (go_big_quiet_step (fail))
        refine wpQuiet_nil ?_
        have hB : Below wr.heap.size wr wr.drew := (Below.refl _ _).drew
        refine wpC_all (rs := [7]) (by kernel_rfl) (by decide) ?_
        intro i hi
        simp only [List.mem_cons, List.not_mem_nil, or_false] at hi
        subst hi
        refine ⟨_, rfl, ?_⟩
        go_simp
        refine (C2.out _ (HBw.out.trans (hB.mono HBw.out.size))).mono ?_
        rintro e W4 ⟨⟨v4, rfl, ho4⟩, hb4⟩
        obtain ⟨g4, cp4, rfl, -, -, hgl, -, hfr, hce⟩ := own_bools ho4 (by omega)
        have hc4 := hce xb x3 x4
        rw [HJ.out] at hc4
        replace hB := hB.trans (hb4.mono hB.size)
        clear hce hfr ho4 hb4
        refine ⟨⟨⟨_, hB⟩, rfl⟩, ?_⟩
        go_simp
        refine wpC_all (rs := [13]) (by kernel_rfl) (by decide) ?_
        intro i hi
        simp only [List.mem_cons, List.not_mem_nil, or_false] at hi
        subst hi
        refine ⟨_, rfl, ?_⟩
        go_simp
        refine ⟨⟨⟨_, hB⟩, rfl⟩, ?_⟩
        refine wpC_all (rs := [14]) (by kernel_rfl) (by decide) ?_
        intro i hi
        simp only [List.mem_cons, List.not_mem_nil, or_false] at hi
        subst hi
        refine ⟨_, rfl, ?_⟩
        go_simp
        refine ⟨⟨⟨_, hB⟩, rfl⟩, ?_⟩
        refine wpC_all (rs := [15]) (by kernel_rfl) (by decide) ?_
        intro i hi
        simp only [List.mem_cons, List.not_mem_nil, or_false] at hi
        subst hi
        refine ⟨_, rfl, ?_⟩
        go_simp
        refine ⟨⟨⟨_, hB⟩, rfl⟩, ?_⟩
        refine wpC_done (by kernel_rfl) ?_
        go_wp2_with fail
        go_meet
        case rel => exact ⟨by first | rfl | (rw [Bool.not_eq]; rfl) | simp, hB⟩
      obtain ⟨rfl, hb5⟩ := hcut
      have HBw6 := Lib.hid (HBw.out.trans (hb5.mono hbs))
      have t0 := (hb5.cell (p := ⟨b, off + k * 6, none⟩) hb1).trans q0
      have t1 := (hb5.cell (p := ⟨b, off + k * 6 + 1, none⟩) hb1).trans q1
      have t2 := (hb5.cell (p := ⟨b, off + k * 6 + 2, none⟩) hb1).trans q2
      have t3 := (hb5.cell (p := ⟨b, off + k * 6 + 3, none⟩) hb1).trans q3
      have t4 := (hb5.cell (p := ⟨b, off + k * 6 + 4, none⟩) hb1).trans q4
      have t5 := (hb5.cell (p := ⟨b, off + k * 6 + 5, none⟩) hb1).trans q5
      have hb15 : b < wc.heap.size := Nat.lt_of_lt_of_le hb1 hb5.size
      clear hb5 q0 q1 q2 q3 q4 q5 hb1 hbs HBw
      generalize wc = w5 at *
      cases J with
      | false =>
        have HFN := Lib.hid (HNX.out (by rw [Bool.false_and, Bool.false_and]))
        clear HNX HYX C5 C6 C7
        go_wp2_with fail
        go_ret
        exact ⟨ret_bool HFN.out, HBw6.out⟩
      | true =>
        go_upto_region 6 with fail
        go_cut [8] (fun s8 wc => ∃ ga, isPr s8 ga ∧ CA wc ga [.int .i64 N1, .int .i64 D1] ∧ Below w5.heap.size w5 wc)
        case first =>
          refine wp_region_mix (by kernel_rfl) (by kernel_rfl) ?_
          refine wpC_take (f := 3) (by kernel_rfl) (by kernel_rfl) ⟨⟨_, (Below.refl _ _).drew⟩, rfl⟩ [0, 1, 2, 3, 4, 5, 6, 7, 8, 9, 10, 11] _ _ (by kernel_rfl) ?_
          simp only [List.map_cons, List.map_nil, List.getElem?_toArray, List.getElem?_cons_succ, List.getElem?_cons_zero, Option.getD_some]
          repeat (go_big_quiet_step (fail))
          refine wpQuiet_nil ?_
          have hB : Below w5.heap.size w5 w5.drew := (Below.refl _ _).drew
          refine wpC_all (rs := [12, 13]) (by kernel_rfl) (by decide) ?_
          intro i hi
          simp only [List.mem_cons, List.not_mem_nil, or_false] at hi
          rcases hi with rfl | rfl
          · refine ⟨_, rfl, ?_⟩
            go_simp
            refine (C5.out _ (HBw6.out.trans (hB.mono HBw6.out.size))).mono ?_
            rintro e WW0 ⟨rfl, hb9⟩
            replace hB := hB.trans (hb9.mono hB.size)
            clear hb9
            refine ⟨⟨⟨_, hB⟩, rfl⟩, ?_⟩
            go_simp
            refine wpC_all (rs := [13]) (by kernel_rfl) (by decide) ?_
            intro i hi
            simp only [List.mem_cons, List.not_mem_nil, or_false] at hi
            subst hi
            refine ⟨_, rfl, ?_⟩
            go_simp
            obtain ⟨ga, hga⟩ : ∃ q, q = (WW0).heap.size := ⟨_, rfl⟩
            have h0ga : w5.heap.size ≤ ga := by rw [hga]; exact hB.size
            have hca : CA ((WW0).alloc (.cells #[.int .i64 0, .int .i64 0] 39)) ga [.int .i64 0, .int .i64 0] := by rw [hga]; exact CA.new (WW0) [.int .i64 0, .int .i64 0] 39
            replace hB := hB.alloc hB.size (.cells #[.int .i64 0, .int .i64 0] 39)
            rw [← hga]
            clear hga
            generalize (WW0).alloc (.cells #[.int .i64 0, .int .i64 0] 39) = WW1 at *
            refine ⟨⟨⟨_, hB⟩, rfl⟩, ?_⟩
            refine wpC_all (rs := [14]) (by kernel_rfl) (by decide) ?_
            intro i hi
            simp only [List.mem_cons, List.not_mem_nil, or_false] at hi
            subst hi
            refine ⟨_, rfl, ?_⟩
            obtain ⟨z0, f0⟩ := hca.2 0 _ rfl
            obtain ⟨z1, f1⟩ := hca.2 1 _ rfl
            go_simp
            replace hca := (hca.set (k := 0) (by simp) (.int .i64 N1)).set (k := 1) (by simp) (.int .i64 D1)
            replace hB := (hB.setCell (p := ⟨ga, 0, none⟩) h0ga (.int .i64 N1)).setCell (p := ⟨ga, 1, none⟩) h0ga (.int .i64 D1)
            clear z0 z1 f0 f1
            generalize ((WW1).setCell ⟨ga, 0, none⟩ (.int .i64 N1)).setCell ⟨ga, 1, none⟩ (.int .i64 D1) = WW2 at *
            refine ⟨⟨⟨_, hB⟩, rfl⟩, ?_⟩
            refine wpC_done (by kernel_rfl) ?_
            go_wp2_with fail
            go_meet
            case rel => exact ⟨_, rfl, hca.cast rfl, hB⟩
          · refine ⟨_, rfl, ?_⟩
            go_simp
            obtain ⟨ga, hga⟩ : ∃ q, q = w5.heap.size := ⟨_, rfl⟩
            have h0ga : w5.heap.size ≤ ga := by rw [hga]; exact Nat.le_refl _
            have hca : CA (w5.alloc (.cells #[.int .i64 0, .int .i64 0] 39)).drew ga [.int .i64 0, .int .i64 0] := by rw [hga]; exact (CA.new w5 [.int .i64 0, .int .i64 0] 39).drew
            replace hB : Below w5.heap.size w5 (w5.alloc (.cells #[.int .i64 0, .int .i64 0] 39)).drew := ((Below.refl _ _).alloc (Nat.le_refl _) (.cells #[.int .i64 0, .int .i64 0] 39)).drew
            rw [← hga]
            rw [← hga] at hB
            generalize (w5.alloc (.cells #[.int .i64 0, .int .i64 0] 39)).drew = WW0 at *
            rw [hga] at hB
            clear hga
            refine ⟨⟨⟨_, hB⟩, rfl⟩, ?_⟩
            refine wpC_all (rs := [12]) (by kernel_rfl) (by decide) ?_
            intro i hi
            simp only [List.mem_cons, List.not_mem_nil, or_false] at hi
            subst hi
            refine ⟨_, rfl, ?_⟩
            go_simp
            refine (C5.out _ (HBw6.out.trans (hB.mono HBw6.out.size))).mono ?_
            rintro e WW1 ⟨rfl, hb9⟩
            replace hB := hB.trans (hb9.mono hB.size)
            replace hca := hca.later hb9
            clear hb9
            refine ⟨⟨⟨_, hB⟩, rfl⟩, ?_⟩
            go_simp
            refine wpC_all (rs := [14]) (by kernel_rfl) (by decide) ?_
            intro i hi
            simp only [List.mem_cons, List.not_mem_nil, or_false] at hi
            subst hi
            refine ⟨_, rfl, ?_⟩
            obtain ⟨z0, f0⟩ := hca.2 0 _ rfl
            obtain ⟨z1, f1⟩ := hca.2 1 _ rfl
            go_simp
            replace hca := (hca.set (k := 0) (by simp) (.int .i64 N1)).set (k := 1) (by simp) (.int .i64 D1)
            replace hB := (hB.setCell (p := ⟨ga, 0, none⟩) h0ga (.int .i64 N1)).setCell (p := ⟨ga, 1, none⟩) h0ga (.int .i64 D1)
            clear z0 z1 f0 f1
            generalize ((WW1).setCell ⟨ga, 0, none⟩ (.int .i64 N1)).setCell ⟨ga, 1, none⟩ (.int .i64 D1) = WW2 at *
            refine ⟨⟨⟨_, hB⟩, rfl⟩, ?_⟩
            refine wpC_done (by kernel_rfl) ?_
            go_wp2_with fail
            go_meet
            case rel => exact ⟨_, rfl, hca.cast rfl, hB⟩
        obtain ⟨F, hs8, HF7', hb7⟩ := hcut
        unfold isPr at hs8
        subst hs8
        have HF7 := Lib.hid HF7'
        have HB7 := Lib.hid (HBw6.out.trans (hb7.mono HBw6.out.size))
        have u2 := (hb7.cell (p := ⟨b, off + k * 6 + 2, none⟩) hb15).trans t2
        have u3 := (hb7.cell (p := ⟨b, off + k * 6 + 3, none⟩) hb15).trans t3
        have u4 := (hb7.cell (p := ⟨b, off + k * 6 + 4, none⟩) hb15).trans t4
        have u5 := (hb7.cell (p := ⟨b, off + k * 6 + 5, none⟩) hb15).trans t5
        have hb17 : b < wc.heap.size := Nat.lt_of_lt_of_le hb15 hb7.size
        clear hb7 t0 t1 t2 t3 t4 t5 hb15 HBw6 HF7' C5
        generalize wc = w7 at *
        obtain ⟨f0, -⟩ := HF7.out.2 0 _ rfl
        obtain ⟨f1, -⟩ := HF7.out.2 1 _ rfl
        have hfz := HF7.out.1
        by_cases hk1' : K1 < 0
        · have HFN := Lib.hid (HNX.out (by rw [decide_eq_false (by omega), Bool.and_false, Bool.false_and]))
          clear HNX HYX
          go_wp2_with fail
          refine wp_region_later (by kernel_rfl) (by kernel_rfl) ?_
          repeat (go_big_quiet_step (fail))
          go_big_quiet_step ((go_at_call 31; exact later_call (C6.out _)))
          repeat (go_big_quiet_step (fail))
          refine wpQuiet_nil ?_
          intro w9 hb9
          have HB9 := Lib.hid (HB7.out.trans (hb9.mono HB7.out.size))
          clear hb9
          go_wp2_with fail
          go_ret
          exact ⟨ret_bool HFN.out, HB9.out⟩
        · by_cases hk2' : 0 < K2
          · have HFN := Lib.hid (HNX.out (by rw [decide_eq_false (show ¬ K2 ≤ 0 by omega), Bool.and_false]))
            clear HNX HYX
            have hd1 : decide (K1 < 0) = false := decide_eq_false (by omega)
            have hd2 : decide (0 < K2) = true := decide_eq_true hk2'
            go_wp2_with fail
            refine wp_region_later (by kernel_rfl) (by kernel_rfl) ?_
            repeat (go_big_quiet_step (fail))
            go_big_quiet_step ((go_at_call 31; exact later_call (C6.out _)))
            repeat (go_big_quiet_step (fail))
            go_big_quiet_step ((go_at_call 31; exact later_call (C7.out _)))
            repeat (go_big_quiet_step (fail))
            refine wpQuiet_nil ?_
            intro w9 hb9
            have HB9 := Lib.hid (HB7.out.trans (hb9.mono HB7.out.size))
            clear hb9
            go_wp2_with fail
            go_ret
            exact ⟨ret_bool HFN.out, HB9.out⟩
          · have HTN := Lib.hid (HYX.out (by rw [decide_eq_true (show 0 ≤ K1 by omega), decide_eq_true (show K2 ≤ 0 by omega)]; rfl))
            clear HNX HYX
            have hd1 : decide (K1 < 0) = false := decide_eq_false (by omega)
            have hd2 : decide (0 < K2) = false := decide_eq_false (by omega)
            go_wp2_with fail
            refine wp_region_later (by kernel_rfl) (by kernel_rfl) ?_
            repeat (go_big_quiet_step (fail))
            go_big_quiet_step ((go_at_call 31; exact later_call (C6.out _)))
            repeat (go_big_quiet_step (fail))
            go_big_quiet_step ((go_at_call 31; exact later_call (C7.out _)))
            repeat (go_big_quiet_step (fail))
            refine wpQuiet_nil ?_
            intro w9 hb9
            have HB9 := Lib.hid (HB7.out.trans (hb9.mono HB7.out.size))
            clear hb9
            go_wp2_with fail
            go_roundw
            case rel => exact ⟨k + 1, by omega, by go_num, HTN, HB9⟩
            case measure => simp [intOf]; omega
    · have hkn : k = m := by omega
      have hk1 : ¬ (k : Int) < m := by omega
      have HF := Lib.hid (HYES.out (by rw [← hkn]; exact HT.out))
      clear HT
      go_wp2_with fail
      go_ret
      exact ⟨ret_bool HF.out, HBw.out⟩
set_option maxRecDepth 20000 in
set_option maxHeartbeats 8000000 in
theorem rFits_any (n : Int) (A : Option Addr) (len cap : Nat) (l : List Tp) (A' : Option Addr) (m cap' : Nat) (r : List Rd) (w : World) (hm : len ≤ 9223372036854775807) (hm' : m ≤ 9223372036854775807) (hx : Rows 3 int3 (0,0,0) w w.heap.size A len l) (hy : Rows 6 rd6 rd0 w w.heap.size A' m r)
    (bd : ∀ k, k < m → (b64 (rdA r k).2.2.1 ∧ b64 (rdA r k).2.2.2.1) ∧ b64 (rdA r k).2.2.2.2.1 ∧ b64 (rdA r k).2.2.2.2.2) :
    Calls Try.prog 7 #[.int .i64 n, .slice A len cap, .slice A' m cap'] w fun e w' => e = .returned (.tuple #[.bool (fitV n l r), .int .i64 (rdE n l r)]) ∧ Below w.heap.size w w' := by
  have c1 := rreadE_any n A len cap l A' m cap' r w hm hm' hx hy bd
  have hV : fitV n l r = (decide (rdE n l r = 0) && fitB l r) := rfl
  have hrl := hy.1
  by_cases h0 : rdE n l r = 0
  · obtain ⟨hv, h20, -⟩ := rdE_zero h0
    have hnN : ((n.toNat : Nat) : Int) = n := by have := (vNet_spec hv).1; omega
    have hrs := rdE_rs h0
    have c2 := fun W (h : Below w.heap.size w W) => rfits_any n.toNat A len cap l A' m cap' r W (by rw [hnN]; exact hv) (by rw [hnN]; exact hrs) (by omega) ((hx.below h).more h.size) ((hy.below h).more h.size)
    rw [h0, decide_eq_true rfl, Bool.true_and] at hV
    rw [h0] at c1
    rw [hV, h0]
    have C1 := Lib.hid c1
    rw [hnN] at c2
    have C2 := Lib.hid c2
    clear c1 c2 hV h0 hv h20 hrs hx hy bd hrl
    go_enter Try.func7, Try.ntmps7
    go_wp2_with fail
    refine C1.out.mono ?_
    rintro e w1 ⟨rfl, hb1⟩
    have HB1 := Lib.hid hb1
    clear hb1
    go_wp2_with fail
    refine (C2.out _ HB1.out).mono ?_
    rintro e w2 ⟨rfl, hb2⟩
    have HB2 := Lib.hid (HB1.out.trans (hb2.mono HB1.out.size))
    clear hb2
    go_wp2_with fail
    go_ret2
    exact ⟨rfl, HB2.out⟩
  · rw [decide_eq_false h0, Bool.false_and] at hV
    rw [hV]
    have hne : (rdE n l r == 0) = false := by simpa using h0
    generalize rdE n l r = E at *
    have C1 := Lib.hid c1
    clear c1 hV h0 hx hy bd hrl
    go_enter Try.func7, Try.ntmps7
    go_wp2_with fail
    refine C1.out.mono ?_
    rintro e w1 ⟨rfl, hb1⟩
    have HB1 := Lib.hid hb1
    clear hb1
    go_wp2_with fail
    go_ret2
    exact ⟨rfl, HB1.out⟩
set_option maxRecDepth 20000 in
set_option maxHeartbeats 8000000 in
theorem rBroken_any (n : Int) (A : Option Addr) (len cap : Nat) (l : List Tp) (A' : Option Addr) (m cap' : Nat) (r : List Rd) (w : World) (hcap : len ≤ cap) (hm : len ≤ 9223372036854775807) (hm' : m ≤ 9223372036854775807) (hx : Rows 3 int3 (0,0,0) w w.heap.size A len l) (hy : Rows 6 rd6 rd0 w w.heap.size A' m r)
    (bd : ∀ k, k < m → (b64 (rdA r k).2.2.1 ∧ b64 (rdA r k).2.2.2.1) ∧ b64 (rdA r k).2.2.2.2.1 ∧ b64 (rdA r k).2.2.2.2.2) :
    Calls Try.prog 9 #[.int .i64 n, .slice A len cap, .slice A' m cap'] w fun e w' => (∃ v, e = .returned (.tuple #[v, .int .i64 (brkE n l r)]) ∧ w'.ownsRow w.heap.size 3 1 v (brkL n l r).length (icells (brkL n l r))) ∧ Below w.heap.size w w' := by
  have c1 := rreadE_any n A len cap l A' m cap' r w hm hm' hx hy bd
  have hE : brkE n l r = if rdE n l r = 0 then (if fitB l r then 10 else 0) else rdE n l r := rfl
  have hL : brkL n l r = if brkE n l r = 0 then brkR l r l.length else [] := rfl
  have hrl := hy.1
  have hll := hx.1
  by_cases h0 : rdE n l r = 0
  · obtain ⟨hv, h20, -⟩ := rdE_zero h0
    have hnN : ((n.toNat : Nat) : Int) = n := by have := (vNet_spec hv).1; omega
    have hrs := rdE_rs h0
    have hlen := (vNet_spec hv).2.1
    rw [hll] at hlen
    have c2 := fun W (h : Below w.heap.size w W) => rfits_any n.toNat A len cap l A' m cap' r W (by rw [hnN]; exact hv) (by rw [hnN]; exact hrs) (by omega) ((hx.below h).more h.size) ((hy.below h).more h.size)
    rw [h0, if_pos rfl] at hE
    rw [h0] at c1
    cases hf : fitB l r
    · rw [hf] at hE c2
      rw [if_neg (by decide)] at hE
      rw [hE, if_pos rfl, hll] at hL
      rw [hE, hL]
      have c3 := fun i W (hi : i < len) (h : Below w.heap.size w W) => rwithout_any A len cap l i W hi hcap (by omega) ((hx.below h).more h.size)
      have c4 := fun i A1 cap1 W (hi : i < len) (h : Below w.heap.size w W) (hp : Rows 3 int3 (0,0,0) W W.heap.size A1 (len - 1) (l.eraseIdx i)) => rfits_any n.toNat A1 (len - 1) cap1 (l.eraseIdx i) A' m cap' r W (by rw [hnN]; exact wvNet_erase hv i) (by rw [hnN]; exact hrs) (by omega) hp ((hy.below h).more h.size)
      have hEL : ∀ i, i < len → (l.eraseIdx i).length = len - 1 := fun i hi => by rw [erase_len (by omega), hll]
      have hY := fun k h => brkR_yes (l := l) (r := r) (k := k) h
      have hN := fun k h => brkR_no (l := l) (r := r) (k := k) h
      have hbl := fun k => brkR_len l r k
      have hb0 : brkR l r 0 = [] := rfl
      have HB0 := Lib.hid hb0
      clear hb0
      obtain ⟨j0, hj, hy0, hy1, hy2⟩ := info_parts tinfo_int
      have hI0 := Lib.hid hj
      have hI1 := Lib.hid hy0
      have hI2 := Lib.hid hy1
      have hI3 := Lib.hid hy2
      have C1 := Lib.hid c1
      rw [hnN] at c2
      have C2 := Lib.hid c2
      have C3 := Lib.hid c3
      rw [hnN] at c4
      have C4 := Lib.hid c4
      have HEL := Lib.hid hEL
      have HYY := Lib.hid hY
      have HNN := Lib.hid hN
      have HBL := Lib.hid hbl
      generalize brkR l r = BR at *
      clear c1 c2 c3 c4 hE hL hEL hY hN hbl hj hy0 hy1 hy2 h0 hv h20 hrs hx hy bd hrl hf
      go_enter Try.func9, Try.ntmps9
      go_wp2_with fail
      refine C1.out.mono ?_
      rintro e w1 ⟨rfl, hb1⟩
      have HB1 := Lib.hid hb1
      clear hb1
      go_wp2_with fail
      refine (C2.out _ HB1.out).mono ?_
      rintro e w2 ⟨rfl, hb2⟩
      have HB2 := Lib.hid (HB1.out.trans (hb2.mono HB1.out.size))
      clear hb2 HB1
      go_wp2_with fail
      go_loopw [9, 10] (fun v i' W => ∃ k : Nat, k ≤ len ∧ i' = .int .i64 (k : Int) ∧ Hid (W.ownsRow w2.heap.size 3 1 v (BR k).length (icells (BR k))) ∧ Hid (Below w2.heap.size w2 W)) (fun _ i' _ => len - (intOf i').toNat)
      case atStart => exact ⟨0, Nat.zero_le _, rfl, Lib.hid (by rw [HB0.out]; exact World.ownsRow_nil _ _ _ _), Lib.hid (Below.refl _ _)⟩
      case round =>
        obtain ⟨k, hk, rfl, HO, HB⟩ := hrel
        have hbs := HB.out.size
        have HBw := Lib.hid (HB2.out.trans (HB.out.mono HB2.out.size))
        by_cases hlt : k < len
        · have hk1 : (k : Int) < len := by omega
          have c3 := C3.out k wr hlt HBw.out
          rw [HEL.out k hlt] at c3
          have C3' := Lib.hid c3
          have hbk := HBL.out k
          have hno := HNN.out k
          have hyes := HYY.out k
          have c4 := fun A1 cap1 W => C4.out k A1 cap1 W hlt
          have C4' := Lib.hid c4
          clear c3 c4
          go_wp2_with fail
          refine C3'.out.mono ?_
          rintro e w4 ⟨⟨v4, rfl, ho4⟩, hb4⟩
          obtain ⟨A1, cap1, rfl, hq1, hq2, hP, -⟩ := own_tapes ho4
          have HP := Lib.hid hP
          have HO4 := Lib.hid (town_later HO.out hb4)
          have HB4 := Lib.hid (HB.out.trans (hb4.mono hbs))
          have HBw4 := Lib.hid (HBw.out.trans (hb4.mono HBw.out.size))
          clear ho4 hP hb4 HO HB C3'
          go_wp2_with fail
          refine (C4'.out _ _ _ HBw4.out HP.out).mono ?_
          rintro e w5 ⟨rfl, hb5⟩
          have HO5 := Lib.hid (town_later HO4.out hb5)
          have HB5 := Lib.hid (HB4.out.trans (hb5.mono HB4.out.size))
          have hbs5 := HB5.out.size
          clear hb5 HO4 HB4 HBw4 HP C4'
          cases hfk : fitB (l.eraseIdx k) r
          · have HN := Lib.hid (hno hfk)
            clear hno hyes hfk
            go_wp2_with fail
            go_roundw
            case rel => exact ⟨k + 1, by omega, by go_num, Lib.hid (by rw [HN.out]; exact HO5.out), HB5⟩
            case measure => simp [intOf]; omega
          · have HY := Lib.hid (hyes hfk)
            clear hno hyes hfk
            go_wp2_with (at_builtin; go_loud (refine wpList_append_own _ rfl (.tmp 34) (.tmp 36) 31 rfl w2.heap.size 3 j0 (.int .i64 0) 1 8 Try.underlying31 hI0.out hI1.out hI2.out hI3.out rfl (by decide) _ _ _ rfl (HO5.out.alloc _) ⟨w5.heap.size, 0, none⟩ 1 1 [.int .i64 (k : Int)] rfl rfl (tnews1 _ _ _) (tone1 _) (by unfold maxLen; omega) (by omega) (by simp; omega) ?_); intro v8 w8 hown8 hgrow8 _)
            have hb9 : Below w2.heap.size (w5.alloc (.cells #[.int .i64 (k : Int)] 3)) w8 := grown_below hgrow8 (by simp; omega) (fun q hq => ((HO5.out.alloc (.cells #[.int .i64 (k : Int)] 3)).lt q hq).1)
            have HB10 := Lib.hid ((HB5.out.alloc hbs5 (.cells #[.int .i64 (k : Int)] 3)).trans hb9)
            have HR2 : Hid (w8.ownsRow w2.heap.size 3 1 v8 (BR (k + 1)).length (icells (BR (k + 1)))) := Lib.hid (by rw [HY.out, List.length_append, icells_app]; exact hown8)
            clear hown8 hgrow8 hb9 HO5 HB5
            go_wp2_with fail
            go_roundw
            case rel => exact ⟨k + 1, by omega, by go_num, HR2, HB10⟩
            case measure => simp [intOf]; omega
        · have hkn : k = len := by omega
          have hk1 : ¬ (k : Int) < len := by omega
          have HF := Lib.hid (town_mono HO.out HB2.out.size)
          rw [hkn] at HF
          clear HO HB
          go_wp2_with fail
          go_ret2
          exact ⟨⟨_, rfl, HF.out⟩, HBw.out⟩
    · rw [hf] at hE c2
      rw [if_pos rfl] at hE
      rw [hE, if_neg (by decide)] at hL
      rw [hE, hL]
      have C1 := Lib.hid c1
      rw [hnN] at c2
      have C2 := Lib.hid c2
      clear c1 c2 hE hL h0 hv h20 hrs hx hy bd hrl hf
      go_enter Try.func9, Try.ntmps9
      go_wp2_with fail
      refine C1.out.mono ?_
      rintro e w1 ⟨rfl, hb1⟩
      have HB1 := Lib.hid hb1
      clear hb1
      go_wp2_with fail
      refine (C2.out _ HB1.out).mono ?_
      rintro e w2 ⟨rfl, hb2⟩
      have HB2 := Lib.hid (HB1.out.trans (hb2.mono HB1.out.size))
      clear hb2
      go_wp2_with fail
      go_ret2
      exact ⟨⟨.slice none 0 0, rfl, World.ownsRow_nil _ _ _ _⟩, HB2.out⟩
  · rw [if_neg h0] at hE
    rw [hE, if_neg h0] at hL
    rw [hE, hL]
    have hne : (rdE n l r == 0) = false := by simpa using h0
    generalize rdE n l r = E at *
    have C1 := Lib.hid c1
    clear c1 hE hL h0 hx hy bd hrl
    go_enter Try.func9, Try.ntmps9
    go_wp2_with fail
    refine C1.out.mono ?_
    rintro e w1 ⟨rfl, hb1⟩
    have HB1 := Lib.hid hb1
    clear hb1
    go_wp2_with fail
    go_ret2
    exact ⟨⟨.slice none 0 0, rfl, World.ownsRow_nil _ _ _ _⟩, HB1.out⟩
end Go.Proofs.Ytloogollfconpaa

namespace Go.Proofs.Ytloogollfconpaa
open Go.RowKit
attribute [local go_sem] Later.cell

set_option maxHeartbeats 1000000 in
theorem SameInts_any (A : Option Addr) (len cap : Nat) (xs : List Int) (A' : Option Addr) (len' cap' : Nat) (ys : List Int) (w : World) (hm : len ≤ 9223372036854775807) (hm' : len' ≤ 9223372036854775807) (hx : Ints w w.heap.size A len xs) (hy : Ints w w.heap.size A' len' ys) :
    Calls Try.prog 10 #[.slice A len cap, .slice A' len' cap'] w fun e w' => e = .returned (.bool (decide (xs = ys))) ∧ Below w.heap.size w w' := by
  have HX := Lib.hid hx
  have HY := Lib.hid hy
  clear hx hy
  by_cases hl : len = len'
  · subst hl
    go_enter Try.func10, Try.ntmps10
    go_wp2
    go_loopw [5] (fun i wr => ∃ k : Nat, k ≤ len ∧ i = .int .i64 k ∧ (∀ j, j < k → xs[j]?.getD 0 = ys[j]?.getD 0) ∧ Below w.heap.size w wr) (fun i _ => len - (intOf i).toNat)
    case atStart => exact ⟨0, Nat.zero_le _, rfl, fun j h => absurd h (by omega), Below.refl _ _⟩
    case round =>
      obtain ⟨k, hk, rfl, ht, hB⟩ := hrel
      have HT := Lib.hid ht
      clear ht
      by_cases hlt : k < len
      · obtain ⟨b, off, rfl, hb0, hc1⟩ := (HX.out.below hB).at_ k hlt
        obtain ⟨b', off', rfl, hb0', hc1'⟩ := (HY.out.below hB).at_ k hlt
        have hbs := hB.size
        have hb1 : b < wr.heap.size := by omega
        have hb1' : b' < wr.heap.size := by omega
        generalize hX : xs[k]?.getD 0 = X at *
        generalize hY : ys[k]?.getD 0 = Y at *
        have HXX := Lib.hid hX
        have HYY := Lib.hid hY
        clear hX hY
        have hk1 : (k : Int) < len := by omega
        have hk2 : ¬ len ≤ k := by omega
        by_cases hxy : X = Y
        · have hxy2 : (X == Y) = true := by simpa using hxy
          have H3 : Hid (∀ j, j < k + 1 → xs[j]?.getD 0 = ys[j]?.getD 0) := by
            intro j hj
            by_cases hjk : j = k
            · rw [hjk, HXX.out, HYY.out]; exact hxy
            · exact HT.out j (by omega)
          subst hxy
          go_wp2
          (refine wp_region_later (by kernel_rfl) (by kernel_rfl) ?_; (repeat (go_big_quiet_step ((fail)))); refine wpQuiet_nil ?_)
          intro w4 hb
          go_wp2
          go_roundw
          case rel => exact ⟨k + 1, by omega, by go_num, H3.out, (by repeat (first | exact Below.refl _ _ | assumption | refine Below.setCell ?_ (by first | (simp; done) | (simp; omega) | omega) _ | refine Below.drew ?_ | refine below_drewN ?_ _ | refine Below.alloc ?_ (by first | (simp; done) | (simp; omega) | omega) _ | refine below_alloc ?_ _ | refine below_step ?_ (by assumption)))⟩
          case measure => simp [intOf]; omega
        · have hxy2 : (X == Y) = false := by simpa using hxy
          have H3 : Hid (¬ xs = ys) := by
            intro h
            apply hxy
            rw [← HXX.out, ← HYY.out, h]
          clear hxy
          go_wp2
          (refine wp_region_later (by kernel_rfl) (by kernel_rfl) ?_; (repeat (go_big_quiet_step ((fail)))); refine wpQuiet_nil ?_)
          intro w4 hb
          go_wp2
          go_ret
          exact ⟨ret_bool (decide_eq_false H3.out).symm, (by repeat (first | exact Below.refl _ _ | assumption | refine Below.setCell ?_ (by first | (simp; done) | (simp; omega) | omega) _ | refine Below.drew ?_ | refine below_drewN ?_ _ | refine Below.alloc ?_ (by first | (simp; done) | (simp; omega) | omega) _ | refine below_alloc ?_ _ | refine below_step ?_ (by assumption)))⟩
      · have H3 : Hid (xs = ys) := by
          apply List.ext_getElem (by rw [HX.out.1, HY.out.1])
          intro j h1 h2
          have := HT.out j (by have := HX.out.1; omega)
          rw [List.getElem?_eq_getElem h1, List.getElem?_eq_getElem h2] at this
          simpa using this
        go_wp2
        go_ret
        exact ⟨ret_bool (decide_eq_true H3.out).symm, (by repeat (first | exact Below.refl _ _ | assumption | refine Below.setCell ?_ (by first | (simp; done) | (simp; omega) | omega) _ | refine Below.drew ?_ | refine below_drewN ?_ _ | refine Below.alloc ?_ (by first | (simp; done) | (simp; omega) | omega) _ | refine below_alloc ?_ _ | refine below_step ?_ (by assumption)))⟩
  · have H3 : Hid (¬ xs = ys) := by
      intro h
      apply hl
      rw [← HX.out.1, ← HY.out.1, h]
    go_enter Try.func10, Try.ntmps10
    go_wp2
    go_ret
    exact ⟨ret_bool (decide_eq_false H3.out).symm, (by repeat (first | exact Below.refl _ _ | assumption | refine Below.setCell ?_ (by first | (simp; done) | (simp; omega) | omega) _ | refine Below.drew ?_ | refine below_drewN ?_ _ | refine Below.alloc ?_ (by first | (simp; done) | (simp; omega) | omega) _ | refine below_alloc ?_ _ | refine below_step ?_ (by assumption)))⟩
end Go.Proofs.Ytloogollfconpaa

namespace Go.Proofs.Ytloogollfconpaa
open Go.ChangeShapes Go.WideShapes Go.RowKit Go.Deep

section
variable {H : Type} {enc : TypeId × Value → H} {P : Program} {w : World} {base : Nat} {spare : Nat → Bool} {held : Bool}
def gRd (x : Rd) : Prop := bd64 x.1 ∧ bd64 x.2.1 ∧ bd64 x.2.2.1 ∧ bd64 x.2.2.2.1 ∧ bd64 x.2.2.2.2.1 ∧ bd64 x.2.2.2.2.2
/-- An element of six ints. -/
theorem el_rd {e i1 i2 i3 i4 i5 i6 : TypeId} (hl : leaves P 8 e = some [i1, i2, i3, i4, i5, i6]) (h1 : P.underlying i1 = some (.int .i64)) (h2 : P.underlying i2 = some (.int .i64)) (h3 : P.underlying i3 = some (.int .i64)) (h4 : P.underlying i4 = some (.int .i64)) (h5 : P.underlying i5 = some (.int .i64)) (h6 : P.underlying i6 = some (.int .i64))
    {fuel : Nat} {cs : List Value} {x : DataW H × List MemPlace} (hlen : cs.length = 6) (hx : DataW.trod enc P w base spare held fuel e cs = some x) : ∃ a, rd6 a = cs ∧ gRd a := by
  obtain ⟨a, b, c, d, f, g, rfl⟩ := list6 hlen
  obtain ⟨p1, hp1, b1⟩ := leaf_int hl hx 0 rfl h1
  obtain ⟨p2, hp2, b2⟩ := leaf_int hl hx 1 rfl h2
  obtain ⟨p3, hp3, b3⟩ := leaf_int hl hx 2 rfl h3
  obtain ⟨p4, hp4, b4⟩ := leaf_int hl hx 3 rfl h4
  obtain ⟨p5, hp5, b5⟩ := leaf_int hl hx 4 rfl h5
  obtain ⟨p6, hp6, b6⟩ := leaf_int hl hx 5 rfl h6
  simp at hp1 hp2 hp3 hp4 hp5 hp6
  subst hp1 hp2 hp3 hp4 hp5 hp6
  exact ⟨(p1, p2, p3, p4, p5, p6), rfl, b1, b2, b3, b4, b5, b6⟩
end
theorem rd_bd {r : List Rd} (h : ∀ x ∈ r, gRd x) {m : Nat} (hm : r.length = m) : ∀ k, k < m → (b64 (rdA r k).2.2.1 ∧ b64 (rdA r k).2.2.2.1) ∧ b64 (rdA r k).2.2.2.2.1 ∧ b64 (rdA r k).2.2.2.2.2 := fun k hk => by
  have e : rdA r k = r[k]'(by omega) := by unfold rdA; rw [List.getElem?_eq_getElem (by omega)]; rfl
  have := h _ (List.getElem_mem (show k < r.length by omega))
  rw [e]
  exact ⟨⟨this.2.2.1, this.2.2.2.1⟩, this.2.2.2.2.1, this.2.2.2.2.2⟩
end Go.Proofs.Ytloogollfconpaa

namespace Go.Proofs.Ytloogollfconpaa
open Go.RowKit
attribute [local go_sem] Later.cell Same.cell

set_option maxRecDepth 20000 in
set_option maxHeartbeats 16000000 in
theorem reads_walk (n : Int) (A : Option Addr) (len cap : Nat) (l : List Tp) (A' : Option Addr) (m cap' : Nat) (r : List Rd) (w : World)
    (_ : -9223372036854775808 ≤ n ∧ n ≤ 9223372036854775807)
    (hm : len ≤ cap ∧ cap ≤ 9223372036854775807) (hx : Rows 3 int3 (0,0,0) w w.heap.size A len l) (_ : ∀ x ∈ l, (-9223372036854775808 ≤ x.1 ∧ x.1 ≤ 9223372036854775807) ∧ (-9223372036854775808 ≤ x.2.1 ∧ x.2.1 ≤ 9223372036854775807) ∧ (-9223372036854775808 ≤ x.2.2 ∧ x.2.2 ≤ 9223372036854775807))
    (hm' : m ≤ cap' ∧ cap' ≤ 9223372036854775807) (hy : Rows 6 rd6 rd0 w w.heap.size A' m r) (hg : ∀ x ∈ r, gRd x) :
    Calls Try.prog 3 #[.agg #[.int .i64 n, .slice A len cap], .slice A' m cap'] w fun e w' => e = .returned (.bool true) ∧ Below w.heap.size w w' := by
  have c0 := fun W => tsmall_any n A len cap W
  have hbd := rd_bd hg hy.1
  by_cases hs : decide (len ≤ 30) = true
  · rw [hs] at c0
    by_cases hq : 40 < m ∨ (6 < m ∧ m ≤ 20)
    · have C0 := Lib.hid c0
      clear c0 hx hy hs hbd hg
      rcases hq with h40 | ⟨h6, h20⟩
      · have g1 : (40 : Int) < m := by omega
        go_enter Try.func3, Try.ntmps3
        go_wp2_with fail
        refine (C0.out _).mono ?_
        rintro e w0 ⟨rfl, hb⟩
        have hB_w0 : Below w.heap.size w w0 := (by repeat (first | exact Below.refl _ _ | assumption | refine Below.setCell ?_ (by first | (simp; done) | (simp; omega) | omega) _ | refine Below.drew ?_ | refine below_drewN ?_ _ | refine Below.alloc ?_ (by first | (simp; done) | (simp; omega) | omega) _ | refine below_alloc ?_ _ | refine below_step ?_ (by assumption))); have hz_w0 := hB_w0.size; have hsw00 : w.heap.size < w0.heap.size := Nat.lt_of_lt_of_le (by first | (simp; done) | (simp; omega) | omega) hb.size; have hnw00 : ¬ w.heap.size = w0.heap.size := (by omega); have hmw00 : ¬ w0.heap.size = w.heap.size := (by omega); have hlw00_0 : w.heap.size ≤ w0.heap.size := (by omega); have hlw00_1 : w.heap.size ≤ w0.heap.size + 1 := (by omega); have hlw00_2 : w.heap.size ≤ w0.heap.size + 1 + 1 := (by omega); have hkw00 : w0.cell? ⟨w.heap.size, 0, none⟩ = some (.int .i64 n) := (by rw [hb.cell (p := ⟨w.heap.size, 0, none⟩) (by first | (simp; done) | (simp; omega) | omega)]; first | (go_simp; done) | assumption); have hkw01 : w0.cell? ⟨w.heap.size, 1, none⟩ = some (.slice A len cap) := (by rw [hb.cell (p := ⟨w.heap.size, 1, none⟩) (by first | (simp; done) | (simp; omega) | omega)]; first | (go_simp; done) | assumption); clear hb
        go_wp2_with (go_at_call 5; refine (tawake_any _).mono ?_; rintro e w8 ⟨rfl, hb1⟩)
        go_ret
        exact ⟨rfl, (by repeat (first | exact Below.refl _ _ | assumption | refine Below.setCell ?_ (by first | (simp; done) | (simp; omega) | omega) _ | refine Below.drew ?_ | refine below_drewN ?_ _ | refine Below.alloc ?_ (by first | (simp; done) | (simp; omega) | omega) _ | refine below_alloc ?_ _ | refine below_step ?_ (by assumption)))⟩
      · have g1 : ¬ (40 : Int) < m := by omega
        have g2 : (6 : Int) < m := by omega
        have g3 : (m : Int) ≤ 20 := by omega
        go_enter Try.func3, Try.ntmps3
        go_wp2_with fail
        refine (C0.out _).mono ?_
        rintro e w0 ⟨rfl, hb⟩
        have hB_w0 : Below w.heap.size w w0 := (by repeat (first | exact Below.refl _ _ | assumption | refine Below.setCell ?_ (by first | (simp; done) | (simp; omega) | omega) _ | refine Below.drew ?_ | refine below_drewN ?_ _ | refine Below.alloc ?_ (by first | (simp; done) | (simp; omega) | omega) _ | refine below_alloc ?_ _ | refine below_step ?_ (by assumption))); have hz_w0 := hB_w0.size; have hsw00 : w.heap.size < w0.heap.size := Nat.lt_of_lt_of_le (by first | (simp; done) | (simp; omega) | omega) hb.size; have hnw00 : ¬ w.heap.size = w0.heap.size := (by omega); have hmw00 : ¬ w0.heap.size = w.heap.size := (by omega); have hlw00_0 : w.heap.size ≤ w0.heap.size := (by omega); have hlw00_1 : w.heap.size ≤ w0.heap.size + 1 := (by omega); have hlw00_2 : w.heap.size ≤ w0.heap.size + 1 + 1 := (by omega); have hkw00 : w0.cell? ⟨w.heap.size, 0, none⟩ = some (.int .i64 n) := (by rw [hb.cell (p := ⟨w.heap.size, 0, none⟩) (by first | (simp; done) | (simp; omega) | omega)]; first | (go_simp; done) | assumption); have hkw01 : w0.cell? ⟨w.heap.size, 1, none⟩ = some (.slice A len cap) := (by rw [hb.cell (p := ⟨w.heap.size, 1, none⟩) (by first | (simp; done) | (simp; omega) | omega)]; first | (go_simp; done) | assumption); clear hb
        go_wp2_with (go_at_call 5; refine (tawake_any _).mono ?_; rintro e w8 ⟨rfl, hb1⟩)
        go_ret
        exact ⟨rfl, (by repeat (first | exact Below.refl _ _ | assumption | refine Below.setCell ?_ (by first | (simp; done) | (simp; omega) | omega) _ | refine Below.drew ?_ | refine below_drewN ?_ _ | refine Below.alloc ?_ (by first | (simp; done) | (simp; omega) | omega) _ | refine below_alloc ?_ _ | refine below_step ?_ (by assumption)))⟩
    · have c1 := fun W (hh : Below w.heap.size w W) => Fits_any n A len cap l A' m cap' r W (by omega) (by omega) ((hx.below hh).more hh.size) ((hy.below hh).more hh.size) hbd
      have c2 := fun W (hh : Below w.heap.size w W) => rFits_any n A len cap l A' m cap' r W (by omega) (by omega) ((hx.below hh).more hh.size) ((hy.below hh).more hh.size) hbd
      have c3 := fun W (hh : Below w.heap.size w W) => Broken_any n A len cap l A' m cap' r W (by omega) (by omega) ((hx.below hh).more hh.size) ((hy.below hh).more hh.size) hbd
      have c4 := fun W (hh : Below w.heap.size w W) => rBroken_any n A len cap l A' m cap' r W hm.1 (by omega) (by omega) ((hx.below hh).more hh.size) ((hy.below hh).more hh.size) hbd
      generalize rdE n l r = E at *
      generalize fitV n l r = V at *
      generalize brkE n l r = E2 at *
      generalize brkL n l r = X at *
      have C0 := Lib.hid c0
      have C1 := Lib.hid c1
      have C2 := Lib.hid c2
      have C3 := Lib.hid c3
      have C4 := Lib.hid c4
      clear c0 c1 c2 c3 c4 hx hy hs hbd hg
      have h1 : (V == V) = true := by simp
      have h2 : (E == E) = true := by simp
      have h3 : (E2 == E2) = true := by simp
      have g1 : ¬ (40 : Int) < m := by omega
      have HGO : Hid ((6 : Int) < m → ¬ (m : Int) ≤ 20) := Lib.hid (fun a b => hq (.inr ⟨by omega, by omega⟩))
      clear hq
      by_cases g6 : (6 : Int) < m
      · have g7 := HGO.out g6
        clear HGO
        go_enter Try.func3, Try.ntmps3
        go_wp2_with fail
        refine (C0.out _).mono ?_
        rintro e w0 ⟨rfl, hb⟩
        have hB_w0 : Below w.heap.size w w0 := (by repeat (first | exact Below.refl _ _ | assumption | refine Below.setCell ?_ (by first | (simp; done) | (simp; omega) | omega) _ | refine Below.drew ?_ | refine below_drewN ?_ _ | refine Below.alloc ?_ (by first | (simp; done) | (simp; omega) | omega) _ | refine below_alloc ?_ _ | refine below_step ?_ (by assumption))); have hz_w0 := hB_w0.size; have hsw00 : w.heap.size < w0.heap.size := Nat.lt_of_lt_of_le (by first | (simp; done) | (simp; omega) | omega) hb.size; have hnw00 : ¬ w.heap.size = w0.heap.size := (by omega); have hmw00 : ¬ w0.heap.size = w.heap.size := (by omega); have hlw00_0 : w.heap.size ≤ w0.heap.size := (by omega); have hlw00_1 : w.heap.size ≤ w0.heap.size + 1 := (by omega); have hlw00_2 : w.heap.size ≤ w0.heap.size + 1 + 1 := (by omega); have hkw00 : w0.cell? ⟨w.heap.size, 0, none⟩ = some (.int .i64 n) := (by rw [hb.cell (p := ⟨w.heap.size, 0, none⟩) (by first | (simp; done) | (simp; omega) | omega)]; first | (go_simp; done) | assumption); have hkw01 : w0.cell? ⟨w.heap.size, 1, none⟩ = some (.slice A len cap) := (by rw [hb.cell (p := ⟨w.heap.size, 1, none⟩) (by first | (simp; done) | (simp; omega) | omega)]; first | (go_simp; done) | assumption); clear hb
        go_wp2_with fail
        refine (C1.out _ (by repeat (first | exact Below.refl _ _ | assumption | refine Below.setCell ?_ (by first | (simp; done) | (simp; omega) | omega) _ | refine Below.drew ?_ | refine below_drewN ?_ _ | refine Below.alloc ?_ (by first | (simp; done) | (simp; omega) | omega) _ | refine below_alloc ?_ _ | refine below_step ?_ (by assumption)))).mono ?_
        rintro e w1 ⟨rfl, hb⟩
        have hB_w1 : Below w.heap.size w w1 := (by repeat (first | exact Below.refl _ _ | assumption | refine Below.setCell ?_ (by first | (simp; done) | (simp; omega) | omega) _ | refine Below.drew ?_ | refine below_drewN ?_ _ | refine Below.alloc ?_ (by first | (simp; done) | (simp; omega) | omega) _ | refine below_alloc ?_ _ | refine below_step ?_ (by assumption))); have hz_w1 := hB_w1.size; have hsw10 : w.heap.size < w1.heap.size := Nat.lt_of_lt_of_le (by first | (simp; done) | (simp; omega) | omega) hb.size; have hnw10 : ¬ w.heap.size = w1.heap.size := (by omega); have hmw10 : ¬ w1.heap.size = w.heap.size := (by omega); have hlw10_0 : w.heap.size ≤ w1.heap.size := (by omega); have hlw10_1 : w.heap.size ≤ w1.heap.size + 1 := (by omega); have hlw10_2 : w.heap.size ≤ w1.heap.size + 1 + 1 := (by omega); have hkw10 : w1.cell? ⟨w.heap.size, 0, none⟩ = some (.int .i64 n) := (by rw [hb.cell (p := ⟨w.heap.size, 0, none⟩) (by first | (simp; done) | (simp; omega) | omega)]; first | (go_simp; done) | assumption); have hkw11 : w1.cell? ⟨w.heap.size, 1, none⟩ = some (.slice A len cap) := (by rw [hb.cell (p := ⟨w.heap.size, 1, none⟩) (by first | (simp; done) | (simp; omega) | omega)]; first | (go_simp; done) | assumption); clear hb hB_w0 hlw00_0 hlw00_1 hlw00_2 hkw00 hkw01
        go_wp2_with fail
        refine (C2.out _ (by repeat (first | exact Below.refl _ _ | assumption | refine Below.setCell ?_ (by first | (simp; done) | (simp; omega) | omega) _ | refine Below.drew ?_ | refine below_drewN ?_ _ | refine Below.alloc ?_ (by first | (simp; done) | (simp; omega) | omega) _ | refine below_alloc ?_ _ | refine below_step ?_ (by assumption)))).mono ?_
        rintro e w2 ⟨rfl, hb⟩
        have hB_w2 : Below w.heap.size w w2 := (by repeat (first | exact Below.refl _ _ | assumption | refine Below.setCell ?_ (by first | (simp; done) | (simp; omega) | omega) _ | refine Below.drew ?_ | refine below_drewN ?_ _ | refine Below.alloc ?_ (by first | (simp; done) | (simp; omega) | omega) _ | refine below_alloc ?_ _ | refine below_step ?_ (by assumption))); have hz_w2 := hB_w2.size; have hsw20 : w.heap.size < w2.heap.size := Nat.lt_of_lt_of_le (by first | (simp; done) | (simp; omega) | omega) hb.size; have hnw20 : ¬ w.heap.size = w2.heap.size := (by omega); have hmw20 : ¬ w2.heap.size = w.heap.size := (by omega); have hlw20_0 : w.heap.size ≤ w2.heap.size := (by omega); have hlw20_1 : w.heap.size ≤ w2.heap.size + 1 := (by omega); have hlw20_2 : w.heap.size ≤ w2.heap.size + 1 + 1 := (by omega); have hkw20 : w2.cell? ⟨w.heap.size, 0, none⟩ = some (.int .i64 n) := (by rw [hb.cell (p := ⟨w.heap.size, 0, none⟩) (by first | (simp; done) | (simp; omega) | omega)]; first | (go_simp; done) | assumption); have hkw21 : w2.cell? ⟨w.heap.size, 1, none⟩ = some (.slice A len cap) := (by rw [hb.cell (p := ⟨w.heap.size, 1, none⟩) (by first | (simp; done) | (simp; omega) | omega)]; first | (go_simp; done) | assumption); clear hb hB_w1 hlw10_0 hlw10_1 hlw10_2 hkw10 hkw11
        go_wp2_with fail
        refine (C3.out _ (by repeat (first | exact Below.refl _ _ | assumption | refine Below.setCell ?_ (by first | (simp; done) | (simp; omega) | omega) _ | refine Below.drew ?_ | refine below_drewN ?_ _ | refine Below.alloc ?_ (by first | (simp; done) | (simp; omega) | omega) _ | refine below_alloc ?_ _ | refine below_step ?_ (by assumption)))).mono ?_
        rintro e w3 ⟨⟨v3, rfl, ho3⟩, hb⟩
        obtain ⟨A3, k3, rfl, q31, q32, hI3, -⟩ := own_ints ho3
        have HI3 := Lib.hid hI3
        clear ho3 hI3
        have hB_w3 : Below w.heap.size w w3 := (by repeat (first | exact Below.refl _ _ | assumption | refine Below.setCell ?_ (by first | (simp; done) | (simp; omega) | omega) _ | refine Below.drew ?_ | refine below_drewN ?_ _ | refine Below.alloc ?_ (by first | (simp; done) | (simp; omega) | omega) _ | refine below_alloc ?_ _ | refine below_step ?_ (by assumption))); have hz_w3 := hB_w3.size; have hsw30 : w.heap.size < w3.heap.size := Nat.lt_of_lt_of_le (by first | (simp; done) | (simp; omega) | omega) hb.size; have hnw30 : ¬ w.heap.size = w3.heap.size := (by omega); have hmw30 : ¬ w3.heap.size = w.heap.size := (by omega); have hlw30_0 : w.heap.size ≤ w3.heap.size := (by omega); have hlw30_1 : w.heap.size ≤ w3.heap.size + 1 := (by omega); have hlw30_2 : w.heap.size ≤ w3.heap.size + 1 + 1 := (by omega); have hkw30 : w3.cell? ⟨w.heap.size, 0, none⟩ = some (.int .i64 n) := (by rw [hb.cell (p := ⟨w.heap.size, 0, none⟩) (by first | (simp; done) | (simp; omega) | omega)]; first | (go_simp; done) | assumption); have hkw31 : w3.cell? ⟨w.heap.size, 1, none⟩ = some (.slice A len cap) := (by rw [hb.cell (p := ⟨w.heap.size, 1, none⟩) (by first | (simp; done) | (simp; omega) | omega)]; first | (go_simp; done) | assumption); clear hb hB_w2 hlw20_0 hlw20_1 hlw20_2 hkw20 hkw21
        go_wp2_with fail
        refine (C4.out _ (by repeat (first | exact Below.refl _ _ | assumption | refine Below.setCell ?_ (by first | (simp; done) | (simp; omega) | omega) _ | refine Below.drew ?_ | refine below_drewN ?_ _ | refine Below.alloc ?_ (by first | (simp; done) | (simp; omega) | omega) _ | refine below_alloc ?_ _ | refine below_step ?_ (by assumption)))).mono ?_
        rintro e w4 ⟨⟨v4, rfl, ho4⟩, hb⟩
        obtain ⟨A4, k4, rfl, q41, q42, hI4, -⟩ := own_ints ho4
        have HI4 := Lib.hid hI4
        have HI5 := Lib.hid ((HI3.out.below hb).more hb.size)
        clear ho4 hI4 HI3
        have hB_w4 : Below w.heap.size w w4 := (by repeat (first | exact Below.refl _ _ | assumption | refine Below.setCell ?_ (by first | (simp; done) | (simp; omega) | omega) _ | refine Below.drew ?_ | refine below_drewN ?_ _ | refine Below.alloc ?_ (by first | (simp; done) | (simp; omega) | omega) _ | refine below_alloc ?_ _ | refine below_step ?_ (by assumption))); have hz_w4 := hB_w4.size; have hsw40 : w.heap.size < w4.heap.size := Nat.lt_of_lt_of_le (by first | (simp; done) | (simp; omega) | omega) hb.size; have hnw40 : ¬ w.heap.size = w4.heap.size := (by omega); have hmw40 : ¬ w4.heap.size = w.heap.size := (by omega); have hlw40_0 : w.heap.size ≤ w4.heap.size := (by omega); have hlw40_1 : w.heap.size ≤ w4.heap.size + 1 := (by omega); have hlw40_2 : w.heap.size ≤ w4.heap.size + 1 + 1 := (by omega); have hkw40 : w4.cell? ⟨w.heap.size, 0, none⟩ = some (.int .i64 n) := (by rw [hb.cell (p := ⟨w.heap.size, 0, none⟩) (by first | (simp; done) | (simp; omega) | omega)]; first | (go_simp; done) | assumption); have hkw41 : w4.cell? ⟨w.heap.size, 1, none⟩ = some (.slice A len cap) := (by rw [hb.cell (p := ⟨w.heap.size, 1, none⟩) (by first | (simp; done) | (simp; omega) | omega)]; first | (go_simp; done) | assumption); clear hb hB_w3 hlw30_0 hlw30_1 hlw30_2 hkw30 hkw31
        have hsm := SameInts_any A3 X.length k3 X A4 X.length k4 X w4 (by unfold maxLen at q32; omega) (by unfold maxLen at q42; omega) HI5.out HI4.out
        rw [decide_eq_true (rfl : X = X)] at hsm
        have HSM := Lib.hid hsm
        clear hsm
        go_wp2_with fail
        refine HSM.out.mono ?_
        rintro e w5 ⟨rfl, hb⟩
        have hB_w5 : Below w.heap.size w w5 := (by repeat (first | exact Below.refl _ _ | assumption | refine Below.setCell ?_ (by first | (simp; done) | (simp; omega) | omega) _ | refine Below.drew ?_ | refine below_drewN ?_ _ | refine Below.alloc ?_ (by first | (simp; done) | (simp; omega) | omega) _ | refine below_alloc ?_ _ | refine below_step ?_ (by assumption))); have hz_w5 := hB_w5.size; clear hb hB_w4 hlw40_0 hlw40_1 hlw40_2 hkw40 hkw41
        go_wp2_with (go_at_call 5; refine (tawake_any _).mono ?_; rintro e w8 ⟨rfl, hb1⟩)
        go_ret
        exact ⟨rfl, (by repeat (first | exact Below.refl _ _ | assumption | refine Below.setCell ?_ (by first | (simp; done) | (simp; omega) | omega) _ | refine Below.drew ?_ | refine below_drewN ?_ _ | refine Below.alloc ?_ (by first | (simp; done) | (simp; omega) | omega) _ | refine below_alloc ?_ _ | refine below_step ?_ (by assumption)))⟩
      · clear HGO
        go_enter Try.func3, Try.ntmps3
        go_wp2_with fail
        refine (C0.out _).mono ?_
        rintro e w0 ⟨rfl, hb⟩
        have hB_w0 : Below w.heap.size w w0 := (by repeat (first | exact Below.refl _ _ | assumption | refine Below.setCell ?_ (by first | (simp; done) | (simp; omega) | omega) _ | refine Below.drew ?_ | refine below_drewN ?_ _ | refine Below.alloc ?_ (by first | (simp; done) | (simp; omega) | omega) _ | refine below_alloc ?_ _ | refine below_step ?_ (by assumption))); have hz_w0 := hB_w0.size; have hsw00 : w.heap.size < w0.heap.size := Nat.lt_of_lt_of_le (by first | (simp; done) | (simp; omega) | omega) hb.size; have hnw00 : ¬ w.heap.size = w0.heap.size := (by omega); have hmw00 : ¬ w0.heap.size = w.heap.size := (by omega); have hlw00_0 : w.heap.size ≤ w0.heap.size := (by omega); have hlw00_1 : w.heap.size ≤ w0.heap.size + 1 := (by omega); have hlw00_2 : w.heap.size ≤ w0.heap.size + 1 + 1 := (by omega); have hkw00 : w0.cell? ⟨w.heap.size, 0, none⟩ = some (.int .i64 n) := (by rw [hb.cell (p := ⟨w.heap.size, 0, none⟩) (by first | (simp; done) | (simp; omega) | omega)]; first | (go_simp; done) | assumption); have hkw01 : w0.cell? ⟨w.heap.size, 1, none⟩ = some (.slice A len cap) := (by rw [hb.cell (p := ⟨w.heap.size, 1, none⟩) (by first | (simp; done) | (simp; omega) | omega)]; first | (go_simp; done) | assumption); clear hb
        go_wp2_with fail
        refine (C1.out _ (by repeat (first | exact Below.refl _ _ | assumption | refine Below.setCell ?_ (by first | (simp; done) | (simp; omega) | omega) _ | refine Below.drew ?_ | refine below_drewN ?_ _ | refine Below.alloc ?_ (by first | (simp; done) | (simp; omega) | omega) _ | refine below_alloc ?_ _ | refine below_step ?_ (by assumption)))).mono ?_
        rintro e w1 ⟨rfl, hb⟩
        have hB_w1 : Below w.heap.size w w1 := (by repeat (first | exact Below.refl _ _ | assumption | refine Below.setCell ?_ (by first | (simp; done) | (simp; omega) | omega) _ | refine Below.drew ?_ | refine below_drewN ?_ _ | refine Below.alloc ?_ (by first | (simp; done) | (simp; omega) | omega) _ | refine below_alloc ?_ _ | refine below_step ?_ (by assumption))); have hz_w1 := hB_w1.size; have hsw10 : w.heap.size < w1.heap.size := Nat.lt_of_lt_of_le (by first | (simp; done) | (simp; omega) | omega) hb.size; have hnw10 : ¬ w.heap.size = w1.heap.size := (by omega); have hmw10 : ¬ w1.heap.size = w.heap.size := (by omega); have hlw10_0 : w.heap.size ≤ w1.heap.size := (by omega); have hlw10_1 : w.heap.size ≤ w1.heap.size + 1 := (by omega); have hlw10_2 : w.heap.size ≤ w1.heap.size + 1 + 1 := (by omega); have hkw10 : w1.cell? ⟨w.heap.size, 0, none⟩ = some (.int .i64 n) := (by rw [hb.cell (p := ⟨w.heap.size, 0, none⟩) (by first | (simp; done) | (simp; omega) | omega)]; first | (go_simp; done) | assumption); have hkw11 : w1.cell? ⟨w.heap.size, 1, none⟩ = some (.slice A len cap) := (by rw [hb.cell (p := ⟨w.heap.size, 1, none⟩) (by first | (simp; done) | (simp; omega) | omega)]; first | (go_simp; done) | assumption); clear hb hB_w0 hlw00_0 hlw00_1 hlw00_2 hkw00 hkw01
        go_wp2_with fail
        refine (C2.out _ (by repeat (first | exact Below.refl _ _ | assumption | refine Below.setCell ?_ (by first | (simp; done) | (simp; omega) | omega) _ | refine Below.drew ?_ | refine below_drewN ?_ _ | refine Below.alloc ?_ (by first | (simp; done) | (simp; omega) | omega) _ | refine below_alloc ?_ _ | refine below_step ?_ (by assumption)))).mono ?_
        rintro e w2 ⟨rfl, hb⟩
        have hB_w2 : Below w.heap.size w w2 := (by repeat (first | exact Below.refl _ _ | assumption | refine Below.setCell ?_ (by first | (simp; done) | (simp; omega) | omega) _ | refine Below.drew ?_ | refine below_drewN ?_ _ | refine Below.alloc ?_ (by first | (simp; done) | (simp; omega) | omega) _ | refine below_alloc ?_ _ | refine below_step ?_ (by assumption))); have hz_w2 := hB_w2.size; have hsw20 : w.heap.size < w2.heap.size := Nat.lt_of_lt_of_le (by first | (simp; done) | (simp; omega) | omega) hb.size; have hnw20 : ¬ w.heap.size = w2.heap.size := (by omega); have hmw20 : ¬ w2.heap.size = w.heap.size := (by omega); have hlw20_0 : w.heap.size ≤ w2.heap.size := (by omega); have hlw20_1 : w.heap.size ≤ w2.heap.size + 1 := (by omega); have hlw20_2 : w.heap.size ≤ w2.heap.size + 1 + 1 := (by omega); have hkw20 : w2.cell? ⟨w.heap.size, 0, none⟩ = some (.int .i64 n) := (by rw [hb.cell (p := ⟨w.heap.size, 0, none⟩) (by first | (simp; done) | (simp; omega) | omega)]; first | (go_simp; done) | assumption); have hkw21 : w2.cell? ⟨w.heap.size, 1, none⟩ = some (.slice A len cap) := (by rw [hb.cell (p := ⟨w.heap.size, 1, none⟩) (by first | (simp; done) | (simp; omega) | omega)]; first | (go_simp; done) | assumption); clear hb hB_w1 hlw10_0 hlw10_1 hlw10_2 hkw10 hkw11
        go_wp2_with fail
        refine (C3.out _ (by repeat (first | exact Below.refl _ _ | assumption | refine Below.setCell ?_ (by first | (simp; done) | (simp; omega) | omega) _ | refine Below.drew ?_ | refine below_drewN ?_ _ | refine Below.alloc ?_ (by first | (simp; done) | (simp; omega) | omega) _ | refine below_alloc ?_ _ | refine below_step ?_ (by assumption)))).mono ?_
        rintro e w3 ⟨⟨v3, rfl, ho3⟩, hb⟩
        obtain ⟨A3, k3, rfl, q31, q32, hI3, -⟩ := own_ints ho3
        have HI3 := Lib.hid hI3
        clear ho3 hI3
        have hB_w3 : Below w.heap.size w w3 := (by repeat (first | exact Below.refl _ _ | assumption | refine Below.setCell ?_ (by first | (simp; done) | (simp; omega) | omega) _ | refine Below.drew ?_ | refine below_drewN ?_ _ | refine Below.alloc ?_ (by first | (simp; done) | (simp; omega) | omega) _ | refine below_alloc ?_ _ | refine below_step ?_ (by assumption))); have hz_w3 := hB_w3.size; have hsw30 : w.heap.size < w3.heap.size := Nat.lt_of_lt_of_le (by first | (simp; done) | (simp; omega) | omega) hb.size; have hnw30 : ¬ w.heap.size = w3.heap.size := (by omega); have hmw30 : ¬ w3.heap.size = w.heap.size := (by omega); have hlw30_0 : w.heap.size ≤ w3.heap.size := (by omega); have hlw30_1 : w.heap.size ≤ w3.heap.size + 1 := (by omega); have hlw30_2 : w.heap.size ≤ w3.heap.size + 1 + 1 := (by omega); have hkw30 : w3.cell? ⟨w.heap.size, 0, none⟩ = some (.int .i64 n) := (by rw [hb.cell (p := ⟨w.heap.size, 0, none⟩) (by first | (simp; done) | (simp; omega) | omega)]; first | (go_simp; done) | assumption); have hkw31 : w3.cell? ⟨w.heap.size, 1, none⟩ = some (.slice A len cap) := (by rw [hb.cell (p := ⟨w.heap.size, 1, none⟩) (by first | (simp; done) | (simp; omega) | omega)]; first | (go_simp; done) | assumption); clear hb hB_w2 hlw20_0 hlw20_1 hlw20_2 hkw20 hkw21
        go_wp2_with fail
        refine (C4.out _ (by repeat (first | exact Below.refl _ _ | assumption | refine Below.setCell ?_ (by first | (simp; done) | (simp; omega) | omega) _ | refine Below.drew ?_ | refine below_drewN ?_ _ | refine Below.alloc ?_ (by first | (simp; done) | (simp; omega) | omega) _ | refine below_alloc ?_ _ | refine below_step ?_ (by assumption)))).mono ?_
        rintro e w4 ⟨⟨v4, rfl, ho4⟩, hb⟩
        obtain ⟨A4, k4, rfl, q41, q42, hI4, -⟩ := own_ints ho4
        have HI4 := Lib.hid hI4
        have HI5 := Lib.hid ((HI3.out.below hb).more hb.size)
        clear ho4 hI4 HI3
        have hB_w4 : Below w.heap.size w w4 := (by repeat (first | exact Below.refl _ _ | assumption | refine Below.setCell ?_ (by first | (simp; done) | (simp; omega) | omega) _ | refine Below.drew ?_ | refine below_drewN ?_ _ | refine Below.alloc ?_ (by first | (simp; done) | (simp; omega) | omega) _ | refine below_alloc ?_ _ | refine below_step ?_ (by assumption))); have hz_w4 := hB_w4.size; have hsw40 : w.heap.size < w4.heap.size := Nat.lt_of_lt_of_le (by first | (simp; done) | (simp; omega) | omega) hb.size; have hnw40 : ¬ w.heap.size = w4.heap.size := (by omega); have hmw40 : ¬ w4.heap.size = w.heap.size := (by omega); have hlw40_0 : w.heap.size ≤ w4.heap.size := (by omega); have hlw40_1 : w.heap.size ≤ w4.heap.size + 1 := (by omega); have hlw40_2 : w.heap.size ≤ w4.heap.size + 1 + 1 := (by omega); have hkw40 : w4.cell? ⟨w.heap.size, 0, none⟩ = some (.int .i64 n) := (by rw [hb.cell (p := ⟨w.heap.size, 0, none⟩) (by first | (simp; done) | (simp; omega) | omega)]; first | (go_simp; done) | assumption); have hkw41 : w4.cell? ⟨w.heap.size, 1, none⟩ = some (.slice A len cap) := (by rw [hb.cell (p := ⟨w.heap.size, 1, none⟩) (by first | (simp; done) | (simp; omega) | omega)]; first | (go_simp; done) | assumption); clear hb hB_w3 hlw30_0 hlw30_1 hlw30_2 hkw30 hkw31
        have hsm := SameInts_any A3 X.length k3 X A4 X.length k4 X w4 (by unfold maxLen at q32; omega) (by unfold maxLen at q42; omega) HI5.out HI4.out
        rw [decide_eq_true (rfl : X = X)] at hsm
        have HSM := Lib.hid hsm
        clear hsm
        go_wp2_with fail
        refine HSM.out.mono ?_
        rintro e w5 ⟨rfl, hb⟩
        have hB_w5 : Below w.heap.size w w5 := (by repeat (first | exact Below.refl _ _ | assumption | refine Below.setCell ?_ (by first | (simp; done) | (simp; omega) | omega) _ | refine Below.drew ?_ | refine below_drewN ?_ _ | refine Below.alloc ?_ (by first | (simp; done) | (simp; omega) | omega) _ | refine below_alloc ?_ _ | refine below_step ?_ (by assumption))); have hz_w5 := hB_w5.size; clear hb hB_w4 hlw40_0 hlw40_1 hlw40_2 hkw40 hkw41
        go_wp2_with (go_at_call 5; refine (tawake_any _).mono ?_; rintro e w8 ⟨rfl, hb1⟩)
        go_ret
        exact ⟨rfl, (by repeat (first | exact Below.refl _ _ | assumption | refine Below.setCell ?_ (by first | (simp; done) | (simp; omega) | omega) _ | refine Below.drew ?_ | refine below_drewN ?_ _ | refine Below.alloc ?_ (by first | (simp; done) | (simp; omega) | omega) _ | refine below_alloc ?_ _ | refine below_step ?_ (by assumption)))⟩
  · have hs' : decide (len ≤ 30) = false := by simpa using hs
    rw [hs'] at c0
    have C0 := Lib.hid c0
    clear c0 hx hy hs hs' hbd hg
    go_enter Try.func3, Try.ntmps3
    go_wp2_with fail
    refine (C0.out _).mono ?_
    rintro e w0 ⟨rfl, hb⟩
    have hB_w0 : Below w.heap.size w w0 := (by repeat (first | exact Below.refl _ _ | assumption | refine Below.setCell ?_ (by first | (simp; done) | (simp; omega) | omega) _ | refine Below.drew ?_ | refine below_drewN ?_ _ | refine Below.alloc ?_ (by first | (simp; done) | (simp; omega) | omega) _ | refine below_alloc ?_ _ | refine below_step ?_ (by assumption))); have hz_w0 := hB_w0.size; have hsw00 : w.heap.size < w0.heap.size := Nat.lt_of_lt_of_le (by first | (simp; done) | (simp; omega) | omega) hb.size; have hnw00 : ¬ w.heap.size = w0.heap.size := (by omega); have hmw00 : ¬ w0.heap.size = w.heap.size := (by omega); have hlw00_0 : w.heap.size ≤ w0.heap.size := (by omega); have hlw00_1 : w.heap.size ≤ w0.heap.size + 1 := (by omega); have hlw00_2 : w.heap.size ≤ w0.heap.size + 1 + 1 := (by omega); have hkw00 : w0.cell? ⟨w.heap.size, 0, none⟩ = some (.int .i64 n) := (by rw [hb.cell (p := ⟨w.heap.size, 0, none⟩) (by first | (simp; done) | (simp; omega) | omega)]; first | (go_simp; done) | assumption); have hkw01 : w0.cell? ⟨w.heap.size, 1, none⟩ = some (.slice A len cap) := (by rw [hb.cell (p := ⟨w.heap.size, 1, none⟩) (by first | (simp; done) | (simp; omega) | omega)]; first | (go_simp; done) | assumption); clear hb
    go_wp2_with (go_at_call 5; refine (tawake_any _).mono ?_; rintro e w8 ⟨rfl, hb1⟩)
    go_ret
    exact ⟨rfl, (by repeat (first | exact Below.refl _ _ | assumption | refine Below.setCell ?_ (by first | (simp; done) | (simp; omega) | omega) _ | refine Below.drew ?_ | refine below_drewN ?_ _ | refine Below.alloc ?_ (by first | (simp; done) | (simp; omega) | omega) _ | refine below_alloc ?_ _ | refine below_step ?_ (by assumption)))⟩
end Go.Proofs.Ytloogollfconpaa
