/- Joined by merge.py from: SameI PtM PtN Parts5 RParts LNets. -/
import Derived.Test.YtcpnipnaidihaaaBase
import Derived.Test.YtcpnipnaidihaaaShelf
import Derived.Test.YtcpnipnaidihaaaLater
import Derived.Test.YtcpnipnaidihaaaNetE
import Derived.Test.YtcpnipnaidihaaaPartM
import Derived.Test.YtcpnipnaidihaaaTape9
import Derived.Test.YtcpnipnaidihaaaRefJ
import Derived.Test.YtcpnipnaidihaaaMBrid
import Derived.Test.YtcpnipnaidihaaaMTrees
import Derived.Test.YtcpnipnaidihaaaMid
set_option linter.unusedSimpArgs false
set_option linter.unusedVariables false
namespace Go.Proofs.Ytcpnipnaidihaaa
open Go.RowKit
attribute [local go_sem] Later.cell

set_option maxHeartbeats 1000000 in
theorem SameInts_any (A : Option Addr) (len cap : Nat) (xs : List Int) (A' : Option Addr) (len' cap' : Nat) (ys : List Int) (w : World) (hm : len ≤ 9223372036854775807) (hm' : len' ≤ 9223372036854775807) (hx : Ints w w.heap.size A len xs) (hy : Ints w w.heap.size A' len' ys) :
    Calls Try.prog 31 #[.slice A len cap, .slice A' len' cap'] w fun e w' => e = .returned (.bool (decide (xs = ys))) ∧ Below w.heap.size w w' := by
  have HX := Lib.hid hx
  have HY := Lib.hid hy
  clear hx hy
  by_cases hl : len = len'
  · subst hl
    go_enter Try.func31, Try.ntmps31
    go_wp2
    go_loopw [5] (fun i wr => ∃ k : Nat, k ≤ len ∧ i = .int .i64 k ∧ (∀ j, j < k → xs[j]?.getD 0 = ys[j]?.getD 0) ∧ Below w.heap.size w wr) (fun i _ => len - (intOf i).toNat)
    case atStart => exact ⟨0, Nat.zero_le _, rfl, fun j h => absurd h (by omega), Below.refl _ _⟩
    case round =>
      obtain ⟨k, hk, rfl, ht, hB⟩ := hrel
      have HT := Lib.hid ht
      clear ht
      by_cases hlt : k < len
      · obtain ⟨b, off, rfl, hb0, hc1⟩ := (HX.out.below hB).at_ k hlt
        obtain ⟨b', off', rfl, hb0', hc1'⟩ := (HY.out.below hB).at_ k hlt
        have hbs := hB.size
        have hb1 : b < wr.heap.size := by omega
        have hb1' : b' < wr.heap.size := by omega
        generalize hX : xs[k]?.getD 0 = X at *
        generalize hY : ys[k]?.getD 0 = Y at *
        have HXX := Lib.hid hX
        have HYY := Lib.hid hY
        clear hX hY
        have hk1 : (k : Int) < len := by omega
        have hk2 : ¬ len ≤ k := by omega
        by_cases hxy : X = Y
        · have hxy2 : (X == Y) = true := by simpa using hxy
          have H3 : Hid (∀ j, j < k + 1 → xs[j]?.getD 0 = ys[j]?.getD 0) := by
            intro j hj
            by_cases hjk : j = k
            · rw [hjk, HXX.out, HYY.out]; exact hxy
            · exact HT.out j (by omega)
          subst hxy
          go_wp2
          (refine wp_region_later (by kernel_rfl) (by kernel_rfl) ?_; (repeat (go_big_quiet_step ((fail)))); refine wpQuiet_nil ?_)
          intro w4 hb
          go_wp2
          go_roundw
          case rel => exact ⟨k + 1, by omega, by go_num, H3.out, (by repeat (first | exact Below.refl _ _ | assumption | refine Below.setCell ?_ (by first | (simp; done) | (simp; omega) | omega) _ | refine Below.drew ?_ | refine below_drewN ?_ _ | refine Below.alloc ?_ (by first | (simp; done) | (simp; omega) | omega) _ | refine below_alloc ?_ _ | refine below_step ?_ (by assumption)))⟩
          case measure => simp [intOf]; omega
        · have hxy2 : (X == Y) = false := by simpa using hxy
          have H3 : Hid (¬ xs = ys) := by
            intro h
            apply hxy
            rw [← HXX.out, ← HYY.out, h]
          clear hxy
          go_wp2
          (refine wp_region_later (by kernel_rfl) (by kernel_rfl) ?_; (repeat (go_big_quiet_step ((fail)))); refine wpQuiet_nil ?_)
          intro w4 hb
          go_wp2
          go_ret
          exact ⟨ret_bool (decide_eq_false H3.out).symm, (by repeat (first | exact Below.refl _ _ | assumption | refine Below.setCell ?_ (by first | (simp; done) | (simp; omega) | omega) _ | refine Below.drew ?_ | refine below_drewN ?_ _ | refine Below.alloc ?_ (by first | (simp; done) | (simp; omega) | omega) _ | refine below_alloc ?_ _ | refine below_step ?_ (by assumption)))⟩
      · have H3 : Hid (xs = ys) := by
          apply List.ext_getElem (by rw [HX.out.1, HY.out.1])
          intro j h1 h2
          have := HT.out j (by have := HX.out.1; omega)
          rw [List.getElem?_eq_getElem h1, List.getElem?_eq_getElem h2] at this
          simpa using this
        go_wp2
        go_ret
        exact ⟨ret_bool (decide_eq_true H3.out).symm, (by repeat (first | exact Below.refl _ _ | assumption | refine Below.setCell ?_ (by first | (simp; done) | (simp; omega) | omega) _ | refine Below.drew ?_ | refine below_drewN ?_ _ | refine Below.alloc ?_ (by first | (simp; done) | (simp; omega) | omega) _ | refine below_alloc ?_ _ | refine below_step ?_ (by assumption)))⟩
  · have H3 : Hid (¬ xs = ys) := by
      intro h
      apply hl
      rw [← HX.out.1, ← HY.out.1, h]
    go_enter Try.func31, Try.ntmps31
    go_wp2
    go_ret
    exact ⟨ret_bool (decide_eq_false H3.out).symm, (by repeat (first | exact Below.refl _ _ | assumption | refine Below.setCell ?_ (by first | (simp; done) | (simp; omega) | omega) _ | refine Below.drew ?_ | refine below_drewN ?_ _ | refine Below.alloc ?_ (by first | (simp; done) | (simp; omega) | omega) _ | refine below_alloc ?_ _ | refine below_step ?_ (by assumption)))⟩
end Go.Proofs.Ytcpnipnaidihaaa

namespace Go.Proofs.Ytcpnipnaidihaaa

/-- The nodes below m that bear the label i. -/
def clsK (R : List Int) (i : Int) (m : Nat) : List Int := ((List.range m).filter fun k : Nat => at6 R k == i).map fun k : Nat => (k : Int)
/-- The sets whose labels are below k. -/
def ptK (R : List Int) (n k : Nat) : List (List Int) := ((List.range k).filter fun i : Nat => at6 R i == (i : Int)).map fun i : Nat => clsK R i n
theorem clsK_yes {R : List Int} {i : Int} {m : Nat} (h : at6 R m = i) : clsK R i (m + 1) = clsK R i m ++ [(m : Int)] := by simp [clsK, List.range_succ, List.filter_append, h]
theorem clsK_no {R : List Int} {i : Int} {m : Nat} (h : at6 R m ≠ i) : clsK R i (m + 1) = clsK R i m := by simp [clsK, List.range_succ, List.filter_append, h]
theorem clsK_len (R : List Int) (i : Int) (m : Nat) : (clsK R i m).length ≤ m := by
  have := List.length_filter_le (fun k : Nat => at6 R k == i) (List.range m)
  simpa [clsK] using this
theorem ptK_yes {R : List Int} {n k : Nat} (h : at6 R k = (k : Int)) : ptK R n (k + 1) = ptK R n k ++ [clsK R k n] := by simp [ptK, List.range_succ, List.filter_append, h]
theorem ptK_no {R : List Int} {n k : Nat} (h : at6 R k ≠ (k : Int)) : ptK R n (k + 1) = ptK R n k := by simp [ptK, List.range_succ, List.filter_append, h]
theorem ptK_len (R : List Int) (n k : Nat) : (ptK R n k).length ≤ k := by
  have := List.length_filter_le (fun i : Nat => at6 R i == (i : Int)) (List.range k)
  simpa [ptK] using this
/-- A set is empty exactly where the node bears another label. -/
theorem clsK_pos {R : List Int} (hR : Lab R) {n k : Nat} (hn : n ≤ 6) (hk : k < n) : 0 < (clsK R k n).length ↔ at6 R k = (k : Int) := by
  constructor
  · intro h
    obtain ⟨x, hx⟩ := List.exists_mem_of_length_pos h
    unfold clsK at hx
    obtain ⟨j, hj, rfl⟩ := List.mem_map.1 hx
    obtain ⟨h1, h2⟩ := List.mem_filter.1 hj
    have h3 : at6 R j = (k : Int) := by simpa using h2
    have h4 := hR.fix j ⟨by omega, by have := List.mem_range.1 h1; omega⟩
    rw [h3] at h4; exact h4
  · intro h
    have : (k : Int) ∈ clsK R k n := by
      unfold clsK
      exact List.mem_map.2 ⟨k, List.mem_filter.2 ⟨List.mem_range.2 hk, by simpa using h⟩, rfl⟩
    exact List.length_pos_of_mem this
/-- Labels are the least of their nodes. -/
theorem lab_least {l : List Tp} (hl : okL l) : ∀ {r : List Int}, Lab r → (∀ x, nod x → at6 r x ≤ x) → ∀ x, nod x → at6 (full l r) x ≤ x := by
  induction l with
  | nil => intro r _ h; exact h
  | cons t l ih =>
    intro r hr h
    obtain ⟨t1, t2, -, -, -⟩ := okL_head hl
    refine ih (okL_tail hl) (hr.mgL t1 t2) (fun x hx => ?_)
    rw [at6_mgL hr.len hx.1 hx.2]
    have h1 := h x hx
    rcases mg_cases (at6 r t.1) (at6 r t.2.1) (at6 r x) with e | ⟨e, e2⟩
    · rw [e]; exact h1
    · rw [e]
      have := Int.min_le_left (at6 r t.1) (at6 r t.2.1)
      have h3 : min (at6 r t.1) (at6 r t.2.1) ≤ max (at6 r t.1) (at6 r t.2.1) := by omega
      omega
theorem full_least {l : List Tp} (hl : okL l) {x : Int} (hx : nod x) : at6 (full l R0) x ≤ x := lab_least hl lab_R0 (fun y hy => by rw [at6_R0 hy]; exact Int.le_refl _) x hx
end Go.Proofs.Ytcpnipnaidihaaa

namespace Go.Proofs.Ytcpnipnaidihaaa

/-- The nodes told of when the sets below k are told, and of the set k what lies below j. -/
def tI (R : List Int) (N k j : Nat) : List Bool := (List.range N).map fun b : Nat => decide (at6 R b < k) || (decide (b < j) && at6 R b == (k : Int))
theorem tI_len (R : List Int) (N k j : Nat) : (tI R N k j).length = N := by simp [tI]
theorem tI_get {R : List Int} {N k j b : Nat} (h : b < N) : (tI R N k j)[b]? = some (decide (at6 R b < k) || (decide (b < j) && at6 R b == (k : Int))) := by
  simp [tI, h]
theorem tI_sB {R : List Int} {N k : Nat} (h : k < N) : sB (tI R N k 0) (k : Int) = decide (at6 R (k : Int) < k) := by
  unfold sB; rw [Int.toNat_natCast, tI_get h]; simp
theorem tI_yes {R : List Int} {N k j : Nat} (hj : j < N) (h : at6 R j = (k : Int)) : (tI R N k j).set j true = tI R N k (j + 1) := by
  apply List.ext_getElem?
  intro b
  by_cases hb : b < N
  · rw [List.getElem?_set, tI_get hb, tI_len, tI_get hb]
    by_cases e : j = b
    · subst e; rw [if_pos rfl, if_pos hb]; simp [h]
    · rw [if_neg e]
      have : decide (b < j + 1) = decide (b < j) := by by_cases hh : b < j <;> simp [hh] <;> omega
      rw [this]
  · rw [List.getElem?_eq_none (by rw [List.length_set, tI_len]; omega), List.getElem?_eq_none (by rw [tI_len]; omega)]
theorem tI_no {R : List Int} {N k j : Nat} (h : at6 R j ≠ (k : Int)) : tI R N k (j + 1) = tI R N k j := by
  unfold tI
  refine List.map_congr_left (fun b hb => ?_)
  by_cases e : b = j
  · subst e; have : (at6 R (b : Int) == (k : Int)) = false := by simpa using h
    rw [this]; simp
  · have : decide (b < j + 1) = decide (b < j) := by by_cases hh : b < j <;> simp [hh] <;> omega
    rw [this]
theorem tI_end (R : List Int) (N k : Nat) : tI R N k N = tI R N (k + 1) 0 := by
  unfold tI
  refine List.map_congr_left (fun b hb => ?_)
  have hb := List.mem_range.1 hb
  have h1 : decide (b < N) = true := decide_eq_true hb
  have h0 : decide (b < 0) = false := decide_eq_false (Nat.not_lt_zero _)
  rw [h1, h0, Bool.true_and, Bool.false_and, Bool.or_false]
  rw [Bool.eq_iff_iff]
  simp
  omega
theorem tI_skip {R : List Int} (hR : Lab R) {N k : Nat} (hN : N ≤ 6) (h : at6 R k ≠ (k : Int)) : tI R N (k + 1) 0 = tI R N k 0 := by
  unfold tI
  refine List.map_congr_left (fun b hb => ?_)
  have hb := List.mem_range.1 hb
  have h0 : decide (b < 0) = false := decide_eq_false (Nat.not_lt_zero _)
  have hne : at6 R b ≠ (k : Int) := fun e => h (by have := hR.fix b ⟨by omega, by omega⟩; rw [e] at this; exact this)
  rw [h0, Bool.false_and, Bool.false_and, Bool.or_false, Bool.or_false, Bool.eq_iff_iff]
  simp
  omega
theorem tI_zero {R : List Int} (hR : Lab R) {N : Nat} (hN : N ≤ 6) : tI R N 0 0 = List.replicate N false := by
  apply List.ext_getElem?
  intro b
  by_cases hb : b < N
  · have := (hR.nd b ⟨by omega, by omega⟩).1
    rw [tI_get hb, List.getElem?_replicate, if_pos hb]
    simp; omega
  · rw [List.getElem?_eq_none (by rw [tI_len]; omega), List.getElem?_eq_none (by simp; omega)]
end Go.Proofs.Ytcpnipnaidihaaa

namespace Go.Proofs.Ytcpnipnaidihaaa
open Go.RowKit
attribute [local go_sem] Later.cell Same.cell

theorem info_ints : (Try.prog.info? 48).map (fun i => (i.zero, i.size, i.bytes)) = some (some (.slice none 0 0), 1, 24) := by kernel_rfl
/-- A row of rows: what lies in it, and what each reads as. -/
def PRow (W : World) (base : Nat) (v : Value) (L : List (List Int)) : Prop :=
  ∃ PS : List (Value × List Int), PS.map Prod.snd = L ∧ W.ownsRow base 48 1 v PS.length (PS.map Prod.fst) ∧ ∀ p, p ∈ PS → W.ownsRow base 3 1 p.1 p.2.length (icells p.2)
theorem PRow.later {W W' : World} {base : Nat} {v : Value} {L : List (List Int)} (h : PRow W base v L) (hb : Below W.heap.size W W') : PRow W' base v L := by
  obtain ⟨PS, h1, h2, h3⟩ := h
  exact ⟨PS, h1, town_later h2 hb, fun p hp => town_later (h3 p hp) hb⟩
theorem PRow.nil (W : World) (base : Nat) : PRow W base (.slice none 0 0) [] := ⟨[], rfl, World.ownsRow_nil _ _ _ _, fun p hp => (by cases hp)⟩
def PtR (w1 : World) (R : List Int) (N : Nat) (i v : Value) (W : World) : Prop :=
  ∃ k : Nat, k ≤ N ∧ i = .int .i64 k ∧ PRow W (w1.heap.size + 1) v (ptK R N k) ∧ Below w1.heap.size w1 W ∧ Arr W w1.heap.size R
theorem PtR.mk {w1 : World} {R : List Int} {N : Nat} {i v : Value} {W : World} (k : Nat) (h1 : k ≤ N) (h2 : i = .int .i64 k) (h3 : PRow W (w1.heap.size + 1) v (ptK R N k)) (h4 : Below w1.heap.size w1 W) (h5 : Arr W w1.heap.size R) : PtR w1 R N i v W := ⟨k, h1, h2, h3, h4, h5⟩
def PiR (wr : World) (R : List Int) (i : Int) (N : Nat) (j v : Value) (W : World) : Prop :=
  ∃ k : Nat, k ≤ N ∧ j = .int .i64 k ∧ W.ownsRow wr.heap.size 3 1 v (clsK R i k).length (icells (clsK R i k)) ∧ Below wr.heap.size wr W
theorem PiR.mk {wr : World} {R : List Int} {i : Int} {N : Nat} {j v : Value} {W : World} (k : Nat) (h1 : k ≤ N) (h2 : j = .int .i64 k) (h3 : W.ownsRow wr.heap.size 3 1 v (clsK R i k).length (icells (clsK R i k))) (h4 : Below wr.heap.size wr W) : PiR wr R i N j v W := ⟨k, h1, h2, h3, h4⟩
/-- One row more. -/
theorem PRow.more {W W' : World} {base base' : Nat} {v v' pv : Value} {L : List (List Int)} {xs : List Int} {n : Nat} (hbb : base ≤ base') (h : PRow W base v L) (hp : W.ownsRow base' 3 1 pv xs.length (icells xs))
    (hn : n = L.length) (hO : ∀ PS : List (Value × List Int), PS.map Prod.snd = L → W.ownsRow base 48 1 v PS.length (PS.map Prod.fst) → W'.ownsRow base 48 1 v' (n + 1) (PS.map Prod.fst ++ [pv])) (hg : W.grownBy W' v.ownBlock) : PRow W' base v' (L ++ [xs]) := by
  obtain ⟨PS, h1, h2, h3⟩ := h
  have hl : PS.length = n := by rw [hn, ← h1, List.length_map]
  refine ⟨PS ++ [(pv, xs)], by rw [List.map_append, h1]; rfl, ?_, fun p hpp => ?_⟩
  · rw [List.map_append, List.length_append, hl]; exact hO PS h1 h2
  · rcases List.mem_append.1 hpp with hpp | hpp
    · exact own_beside (by decide) h2 (h3 p hpp) hg
    · have : p = (pv, xs) := by simpa using hpp
      subst this
      exact own_beside (by decide) h2 (town_mono hp hbb) hg
def paE (n : Int) (l : List Tp) : Int := if vNet n l then 0 else 1
def paL (n : Int) (l : List Tp) : List (List Int) := if vNet n l then ptK (full l R0) n.toNat n.toNat else []
set_option maxRecDepth 20000 in
set_option maxHeartbeats 4000000 in
theorem Parts_any5 (n : Int) (A : Option Addr) (len cap : Nat) (l : List Tp) (w : World) (hm : len ≤ 9223372036854775807) (hx : Rows 3 int3 (0,0,0) w w.heap.size A len l) :
    Calls Try.prog 29 #[.int .i64 n, .slice A len cap] w fun e w' => (∃ v, e = .returned (.tuple #[v, .int .i64 (paE n l)]) ∧ PRow w' w.heap.size v (paL n l)) ∧ Below w.heap.size w w' := by
  have c1 := fun W (h : Below w.heap.size w W) => asked_any n A len cap l none 0 0 [] W hm (by omega) ((hx.below h).more h.size) (ints0 _ _)
  have hA : askE n l [] = if vNet n l then 0 else 1 := by unfold askE; cases vNet n l <;> rfl
  have hE : paE n l = if vNet n l then 0 else 1 := rfl
  have hL : paL n l = if vNet n l then ptK (full l R0) n.toNat n.toNat else [] := rfl
  cases hv : vNet n l
  · rw [hv, if_neg (by decide)] at hE hL
    rw [hA, hv] at c1
    rw [hE, hL]
    have C1 := Lib.hid c1
    clear c1 hx hA hv hE hL
    go_enter Try.func29, Try.ntmps29
    go_wp2_with fail
    refine (C1.out _ (by repeat (first | exact Below.refl _ _ | assumption | refine Below.setCell ?_ (by first | (simp; done) | (simp; omega) | omega) _ | refine Below.drew ?_ | refine below_drewN ?_ _ | refine Below.alloc ?_ (by first | (simp; done) | (simp; omega) | omega) _ | refine below_alloc ?_ _ | refine below_step ?_ (by assumption)))).mono ?_
    rintro e w1 ⟨rfl, hb⟩
    have hB_w1 : Below w.heap.size w w1 := (by repeat (first | exact Below.refl _ _ | assumption | refine Below.setCell ?_ (by first | (simp; done) | (simp; omega) | omega) _ | refine Below.drew ?_ | refine below_drewN ?_ _ | refine Below.alloc ?_ (by first | (simp; done) | (simp; omega) | omega) _ | refine below_alloc ?_ _ | refine below_step ?_ (by assumption))); have hz_w1 := hB_w1.size; clear hb
    go_wp2
    go_ret2
    exact ⟨⟨_, rfl, PRow.nil _ _⟩, (by repeat (first | exact Below.refl _ _ | assumption | refine Below.setCell ?_ (by first | (simp; done) | (simp; omega) | omega) _ | refine Below.drew ?_ | refine below_drewN ?_ _ | refine Below.alloc ?_ (by first | (simp; done) | (simp; omega) | omega) _ | refine below_alloc ?_ _ | refine below_step ?_ (by assumption)))⟩
  · obtain ⟨hn, hlen, hl⟩ := vNet_spec hv
    rw [hv, if_pos rfl] at hE hL
    rw [hA, hv] at c1
    rw [hE, hL]
    have hll := hx.1
    rw [hll] at hlen
    have hpw : 1 ≤ 2 ^ len ∧ 2 ^ len ≤ 1024 := ⟨Nat.pow_pos (by decide), Nat.pow_le_pow_right (by decide) hlen⟩
    have cw := fun W => whole_any A len cap W hlen
    have cj := fun W (h : Below w.heap.size w W) => joined_any A len cap l (2 ^ len - 1) W hlen (by omega) ((hx.below h).more h.size) hl
    have hfu : (jk l (2 ^ len - 1) len).1 = full l R0 := by rw [← hll]; exact jk_full
    rw [hfu] at cj
    have hlab := lab_R0.full hl
    have hR : (full l R0).length = 6 := full_len l R0
    obtain ⟨N, rfl⟩ : ∃ N : Nat, n = N := ⟨n.toNat, by omega⟩
    rw [Int.toNat_natCast]
    generalize full l R0 = R at *
    obtain ⟨i0, hi, hi0, hi1, hi2⟩ := info_parts tinfo_int
    have hI0 := Lib.hid hi
    have hI1 := Lib.hid hi0
    have hI2 := Lib.hid hi1
    have hI3 := Lib.hid hi2
    obtain ⟨j0, hj, hj0, hj1, hj2⟩ := info_parts info_ints
    have hJ0 := Lib.hid hj
    have hJ1 := Lib.hid hj0
    have hJ2 := Lib.hid hj1
    have hJ3 := Lib.hid hj2
    unfold arrV at cj
    have C1 := Lib.hid c1
    have CW := Lib.hid cw
    have CJ := Lib.hid cj
    have HLAB := Lib.hid hlab
    have HR := Lib.hid hR
    generalize (2 : Nat) ^ len = M at *
    clear c1 cw cj hx hA hv hE hL hll hi hi0 hi1 hi2 hj hj0 hj1 hj2 hfu hlab hR
    go_enter Try.func29, Try.ntmps29
    go_wp2_with fail
    refine (C1.out _ (by repeat (first | exact Below.refl _ _ | assumption | refine Below.setCell ?_ (by first | (simp; done) | (simp; omega) | omega) _ | refine Below.drew ?_ | refine below_drewN ?_ _ | refine Below.alloc ?_ (by first | (simp; done) | (simp; omega) | omega) _ | refine below_alloc ?_ _ | refine below_step ?_ (by assumption)))).mono ?_
    rintro e w0 ⟨rfl, hb⟩
    have hB_w0 : Below w.heap.size w w0 := (by repeat (first | exact Below.refl _ _ | assumption | refine Below.setCell ?_ (by first | (simp; done) | (simp; omega) | omega) _ | refine Below.drew ?_ | refine below_drewN ?_ _ | refine Below.alloc ?_ (by first | (simp; done) | (simp; omega) | omega) _ | refine below_alloc ?_ _ | refine below_step ?_ (by assumption))); have hz_w0 := hB_w0.size; clear hb
    go_wp2_with (first | (go_at_call 62; refine (CW.out _).mono ?_; rintro e w' ⟨rfl, rfl⟩) | (go_at_call 61; refine (CJ.out _ hB_w0).mono ?_; rintro e w1 ⟨rfl, hb1⟩))
    have hB1 : Below w.heap.size w w1 := below_step hB_w0 hb1
    have hs1 := hB1.size
    have HA0 := Lib.hid (arr_blk w1 HR.out 83)
    clear hb1
    go_loopw [27, 9] (fun i v W => PtR w1 R N i v W) (fun i _ _ => N - (intOf i).toNat)
    case atStart => exact PtR.mk 0 (Nat.zero_le _) rfl (PRow.nil _ _) ((Below.refl _ _).alloc (Nat.le_refl _) _) HA0.out
    case round =>
      obtain ⟨k, hk, rfl, hP, hb, hA⟩ := hrel
      obtain ⟨wo, hwo⟩ : ∃ q, q = wr := ⟨_, rfl⟩
      subst hwo
      have hsb := hb.size
      have HP := Lib.hid hP
      have HA := Lib.hid hA
      have hG1 : w1.heap.size < wo.heap.size := hA.1
      have HB := Lib.hid hb
      clear hP hA hb HA0
      by_cases hlt : k < N
      · have hk1 : (k : Int) < N := by omega
        go_wp2
        go_loopw [31, 11] (fun j v W => PiR wo R k N j v W) (fun j _ _ => N - (intOf j).toNat)
        case atStart => exact PiR.mk 0 (Nat.zero_le _) rfl (World.ownsRow_nil _ _ _ _) (Below.refl _ _)
        case round =>
          obtain ⟨j, hj, rfl, ho, hb⟩ := hrel
          have hsi := hb.size
          obtain ⟨A2, cap2, rfl, hn3, hn4, -, -⟩ := own_ints ho
          have HO := Lib.hid ho
          have hBi : Below w1.heap.size w1 wr := HB.out.trans (hb.mono hsb)
          have hAi : Arr wr w1.heap.size R := HA.out.below hb hG1
          clear ho
          by_cases hjl : j < N
          · have hg1 := (hAi.at_ j (by omega)).1
            have e6 : num R j = at6 R (j : Int) := by unfold num at6; rw [Int.toNat_natCast]
            rw [e6] at hg1
            have hyes := clsK_yes (R := R) (i := (k : Int)) (m := j)
            have hno := clsK_no (R := R) (i := (k : Int)) (m := j)
            have hL1 := clsK_len R k j
            generalize at6 R (j : Int) = x at *
            have hj1 : (j : Int) < N := by omega
            clear e6 hAi
            by_cases hxk : x = k
            · have HY := Lib.hid (hyes hxk)
              have hxk' : (x == (k : Int)) = true := by simpa using hxk
              clear hyes hno hxk
              go_wp2_with (at_builtin; go_loud (refine wpList_append_own _ rfl (.tmp 39) (.tmp 41) 48 rfl wo.heap.size 3 i0 (.int .i64 0) 1 8 Try.underlying48 hI0.out hI1.out hI2.out hI3.out rfl (by decide) _ _ _ rfl (HO.out.alloc _) ⟨wr.heap.size, 0, none⟩ 1 1 [.int .i64 (j : Int)] rfl rfl (tnews1 _ _ _) (tone1 _) (by unfold maxLen; omega) (by omega) (by simp; omega) ?_))
              intro v8 w8 hown8 hgrow8 _
              have hb9 : Below wo.heap.size (wr.alloc (.cells #[.int .i64 (j : Int)] 3)) w8 := grown_below hgrow8 (by simp; omega) (fun q hq => ((HO.out.alloc (.cells #[.int .i64 (j : Int)] 3)).lt q hq).1)
              have hb10 := (hb.alloc hsi (.cells #[.int .i64 (j : Int)] 3)).trans hb9
              have HR2 : Hid (w8.ownsRow wo.heap.size 3 1 v8 (clsK R k j ++ [(j : Int)]).length (icells (clsK R k j ++ [(j : Int)]))) := Lib.hid (by rw [List.length_append, icells_app]; exact hown8)
              clear hown8 hgrow8 hb9
              go_wp2
              go_roundw
              case rel => exact PiR.mk (j + 1) (by omega) (by go_num) (by rw [HY.out]; exact HR2.out) hb10
              case measure => simp [intOf]; omega
            · have HN := Lib.hid (hno hxk)
              have hxk' : (x == (k : Int)) = false := by simpa using hxk
              clear hyes hno hxk
              go_wp2
              go_roundw
              case rel => exact PiR.mk (j + 1) (by omega) (by go_num) (by rw [HN.out]; exact HO.out) hb
              case measure => simp [intOf]; omega
          · have hjN : j = N := by omega
            subst hjN
            have hpos := clsK_pos HLAB.out (n := j) (k := k) (by omega) hlt
            have hyes := ptK_yes (R := R) (n := j) (k := k)
            have hno := ptK_no (R := R) (n := j) (k := k)
            have hPl := ptK_len R j k
            have HPi := Lib.hid (HP.out.later hb)
            by_cases hlk : at6 R (k : Int) = (k : Int)
            · have hlen1 := hpos.2 hlk
              have HY := Lib.hid (hyes hlk)
              have hlen2 : decide ((0 : Int) < ((clsK R k j).length : Int)) = true := decide_eq_true (by omega)
              obtain ⟨PS, hps1, hps2, hps3⟩ := HPi.out
              have hpsl : PS.length = (ptK R j k).length := by rw [← hps1, List.length_map]
              have HPS := Lib.hid hps2
              clear hyes hno hpos hlk
              go_wp2_with (at_builtin; go_loud (refine wpList_append_own _ rfl (.tmp 47) (.tmp 49) 44 rfl (w1.heap.size + 1) 48 j0 (.slice none 0 0) 1 24 Try.underlying44 hJ0.out hJ1.out hJ2.out hJ3.out rfl (by decide) _ _ _ rfl (HPS.out.alloc _) ⟨wr.heap.size, 0, none⟩ 1 1 [.slice A2 (clsK R k j).length cap2] rfl rfl (tnews1 _ _ _) (by intro u hu; simp at hu; subst hu; rfl) (by unfold maxLen; omega) (by omega) (by simp; omega) ?_))
              intro v9 w9 hown9 hgrow9 _
              have hb9 : Below (w1.heap.size + 1) (wr.alloc (.cells #[.slice A2 (clsK R k j).length cap2] 48)) w9 := grown_below hgrow9 (by simp; omega) (fun q hq => ((HPS.out.alloc (.cells #[.slice A2 (clsK R k j).length cap2] 48)).lt q hq).1)
              have hb10 : Below w1.heap.size w1 w9 := (hBi.alloc hBi.size (.cells #[.slice A2 (clsK R k j).length cap2] 48)).trans (hb9.mono (by omega))
              have hA9 := (hAi.alloc (.cells #[.slice A2 (clsK R k j).length cap2] 48)).below hb9 (by omega)
              have HPN : Hid (PRow w9 (w1.heap.size + 1) v9 (ptK R j k ++ [clsK R k j])) := Lib.hid (by
                refine ⟨PS ++ [(.slice A2 (clsK R k j).length cap2, clsK R k j)], by rw [List.map_append, hps1]; rfl, ?_, fun p hpp => ?_⟩
                · have h9 := hown9
                  simp only [← hpsl] at h9
                  rw [List.map_append, List.length_append]; exact h9
                · rcases List.mem_append.1 hpp with hpp | hpp
                  · exact own_beside (by decide) (HPS.out.alloc (.cells #[.slice A2 (clsK R k j).length cap2] 48)) ((hps3 p hpp).alloc _) hgrow9
                  · have : p = (.slice A2 (clsK R k j).length cap2, clsK R k j) := by simpa using hpp
                    subst this
                    exact own_beside (by decide) (HPS.out.alloc (.cells #[.slice A2 (clsK R k j).length cap2] 48)) ((town_mono HO.out (by omega)).alloc _) hgrow9)
              clear hown9 hgrow9 hb9 hps1 hps2 hps3 hAi
              go_wp2
              go_roundw
              case rel => exact PtR.mk (k + 1) (by omega) (by go_num) (by rw [HY.out]; exact HPN.out) hb10 hA9
              case measure => simp [intOf]; omega
            · have hlen0 : (clsK R k j).length = 0 := by
                rcases Nat.eq_zero_or_pos (clsK R k j).length with h | h
                · exact h
                · exact absurd (hpos.1 h) hlk
              have HN := Lib.hid (hno hlk)
              have HO0 := Lib.hid hlen0
              clear hyes hno hpos hlk hlt
              generalize (clsK R k j).length = Q at *
              have hQ := HO0.out
              subst hQ
              clear hlen0
              go_wp2
              go_roundw
              case rel => exact PtR.mk (k + 1) (by omega) (by go_num) (by rw [HN.out]; exact HPi.out) hBi hAi
              case measure => simp [intOf]; omega
      · have hkN : k = N := by omega
        subst hkN
        have HB2 := Lib.hid (hB1.trans (HB.out.mono hs1))
        go_wp2
        go_ret2
        refine ⟨⟨_, rfl, ?_⟩, HB2.out⟩
        obtain ⟨PS, p1, p2, p3⟩ := HP.out
        exact ⟨PS, p1, town_mono p2 (by omega), fun p hp => town_mono (p3 p hp) (by omega)⟩
end Go.Proofs.Ytcpnipnaidihaaa

namespace Go.Proofs.Ytcpnipnaidihaaa
open Go.RowKit
attribute [local go_sem] Later.cell Same.cell

abbrev toldV (g N : Nat) : Value := .slice (some ⟨g, 0, none⟩) N N
def PRt (w : World) (R : List Int) (N g : Nat) (i v : Value) (W : World) : Prop :=
  ∃ k : Nat, k ≤ N ∧ i = .int .i64 k ∧ PRow W w.heap.size v (ptK R N k) ∧ Below w.heap.size w W ∧ W.ownsRow w.heap.size 4 1 (toldV g N) N (bcells (tI R N k 0))
theorem PRt.mk {w : World} {R : List Int} {N g : Nat} {i v : Value} {W : World} (k : Nat) (h1 : k ≤ N) (h2 : i = .int .i64 k) (h3 : PRow W w.heap.size v (ptK R N k)) (h4 : Below w.heap.size w W) (h5 : W.ownsRow w.heap.size 4 1 (toldV g N) N (bcells (tI R N k 0))) : PRt w R N g i v W := ⟨k, h1, h2, h3, h4, h5⟩
def PRi (w4 : World) (B : Nat) (R : List Int) (N g k : Nat) (j v : Value) (W : World) : Prop :=
  ∃ m : Nat, m ≤ N ∧ j = .int .i64 m ∧ W.ownsRow w4.heap.size 3 1 v (clsK R (k : Int) m).length (icells (clsK R (k : Int) m)) ∧ w4.grownBy W (some g) ∧ W.ownsRow B 4 1 (toldV g N) N (bcells (tI R N k m))
theorem PRi.mk {w4 : World} {B : Nat} {R : List Int} {N g k : Nat} {j v : Value} {W : World} (m : Nat) (h1 : m ≤ N) (h2 : j = .int .i64 m) (h3 : W.ownsRow w4.heap.size 3 1 v (clsK R (k : Int) m).length (icells (clsK R (k : Int) m))) (h4 : w4.grownBy W (some g)) (h5 : W.ownsRow B 4 1 (toldV g N) N (bcells (tI R N k m))) : PRi w4 B R N g k j v W := ⟨m, h1, h2, h3, h4, h5⟩
theorem off_alloc {w W : World} {g : Nat} (h : w.grownBy W (some g)) (b : Obj) : w.grownBy (W.alloc b) (some g) :=
  ⟨h.os, h.tape, h.output, Nat.le_trans h.size (by simp), fun k hk hne => (Below.heap_alloc _ _ _ (Nat.lt_of_lt_of_le hk h.size)).trans (h.block k hk hne)⟩
theorem off_grown {w W V : World} {g : Nat} {q : Option Nat} (h : w.grownBy W (some g)) (h2 : W.grownBy V q) (hq : ∀ k, q = some k → w.heap.size ≤ k) : w.grownBy V (some g) :=
  ⟨h2.os.trans h.os, h2.tape.trans h.tape, h2.output.trans h.output, Nat.le_trans h.size h2.size, fun k hk hne => (h2.block k (Nat.lt_of_lt_of_le hk h.size) (fun e => by have := hq k e.symm; omega)).trans (h.block k hk hne)⟩
theorem PRow.beside {W W' : World} {base b : Nat} {v x : Value} {L : List (List Int)} {e : TypeId} {n : Nat} {xs : List Value} (h : PRow W base v L) (hx : W.ownsRow b e 1 x n xs) (he1 : e ≠ 48) (he2 : e ≠ 3) (hg : W.grownBy W' x.ownBlock) : PRow W' base v L := by
  obtain ⟨PS, h1, h2, h3⟩ := h
  exact ⟨PS, h1, own_beside he1 hx h2 hg, fun p hp => own_beside he2 hx (h3 p hp) hg⟩
theorem PRow.alloc {W : World} {base : Nat} {v : Value} {L : List (List Int)} (h : PRow W base v L) (b : Obj) : PRow (W.alloc b) base v L := by
  obtain ⟨PS, h1, h2, h3⟩ := h
  exact ⟨PS, h1, h2.alloc _, fun p hp => (h3 p hp).alloc _⟩
/-- The row of bools of the reference is made. -/
theorem mk_told {w w1 : World} {N B : Nat} (hB : B ≤ w.heap.size) (ho1 : w1.ownsRow w.heap.size 4 1 (.slice (some ⟨w.heap.size, 0, none⟩) N N) N (madeCells (Value.bool false).cells (N * 1)).toList) (hg1 : w.grownBy w1 none) :
    w1.ownsRow B 4 1 (.slice (some ⟨w.heap.size, 0, none⟩) N N) N (bcells (List.replicate N false)) ∧ Below w.heap.size w w1 := by
  refine ⟨town_mono ?_ hB, grown_below hg1 (Nat.le_refl _) (fun k hk => by cases hk)⟩
  have := ho1
  rw [show (madeCells (Value.bool false).cells (N * 1)).toList = bcells (List.replicate N false) by rw [Nat.mul_one]; exact (toList_madeCells_one (.bool false) N).trans (by simp [bcells])] at this
  exact this
set_option maxRecDepth 20000 in
set_option maxHeartbeats 4000000 in
theorem rParts_any5 (n : Int) (A : Option Addr) (len cap : Nat) (l : List Tp) (w : World) (hm : len ≤ 9223372036854775807) (hx : Rows 3 int3 (0,0,0) w w.heap.size A len l) :
    Calls Try.prog 30 #[.int .i64 n, .slice A len cap] w fun e w' => (∃ v, e = .returned (.tuple #[v, .int .i64 (paE n l)]) ∧ PRow w' w.heap.size v (paL n l)) ∧ Below w.heap.size w w' := by
  have c1 := rValid_any n A len cap l w hm hx
  have hE : paE n l = if vNet n l then 0 else 1 := rfl
  have hL : paL n l = if vNet n l then ptK (full l R0) n.toNat n.toNat else [] := rfl
  cases hv : vNet n l
  · rw [hv, if_neg (by decide)] at hE hL
    rw [hv] at c1
    rw [hE, hL]
    have C1 := Lib.hid c1
    clear c1 hx hv hE hL
    go_enter Try.func30, Try.ntmps30
    go_wp2_with fail
    refine C1.out.mono ?_
    rintro e w1 ⟨rfl, hb⟩
    go_wp2
    go_ret2
    exact ⟨⟨_, rfl, PRow.nil _ _⟩, hb⟩
  · obtain ⟨hn, hlen, hl⟩ := vNet_spec hv
    rw [hv, if_pos rfl] at hE hL
    rw [hv] at c1
    rw [hE, hL]
    rw [hx.1] at hlen
    have hlab := lab_R0.full hl
    have hle := fun x (h : nod x) => full_least hl h
    obtain ⟨N, rfl⟩ : ∃ N : Nat, n = N := ⟨n.toNat, by omega⟩
    have hinn : inn N l := by have := vNet_inn hv; simpa using this
    have hN6 : N ≤ 6 := by omega
    have hN1 : 1 ≤ N := by omega
    rw [Int.toNat_natCast]
    have hsp := fun (k : Nat) (hk : k < N) (x : Nat) (hx : x < N) => part_spec (a := (k : Int)) (x := (x : Int)) hl hinn hN6 (by omega) (by omega)
    have cP := fun (k : Nat) (hk : k < N) W (h : Below w.heap.size w W) => rpart_any N A len cap l k W hN6 hlen (by omega) hinn ((hx.below h).more h.size)
    generalize full l R0 = R at *
    obtain ⟨i0, hi, hi0, hi1, hi2⟩ := info_parts tinfo_int
    have hI0 := Lib.hid hi
    have hI1 := Lib.hid hi0
    have hI2 := Lib.hid hi1
    have hI3 := Lib.hid hi2
    obtain ⟨j0, hj, hj0, hj1, hj2⟩ := info_parts info_ints
    have hJ0 := Lib.hid hj
    have hJ1 := Lib.hid hj0
    have hJ2 := Lib.hid hj1
    have hJ3 := Lib.hid hj2
    obtain ⟨k0, hk0, hy0, hy1, hy2⟩ := info_parts info_bool
    have hK0 := Lib.hid hk0
    have hK1 := Lib.hid hy0
    have hK2 := Lib.hid hy1
    have hK3 := Lib.hid hy2
    have C1 := Lib.hid c1
    have CP := Lib.hid cP
    have HLAB := Lib.hid hlab
    have HLE := Lib.hid hle
    have HSP := Lib.hid hsp
    clear c1 cP hx hv hE hL hi hi0 hi1 hi2 hj hj0 hj1 hj2 hlab hle hsp hinn hk0 hy0 hy1 hy2
    go_enter Try.func30, Try.ntmps30
    go_wp2_with fail
    refine C1.out.mono ?_
    rintro e w1 ⟨rfl, hb1⟩
    have hs1 := hb1.size
    go_wp2_with (refine wpList_make_full _ rfl (.tmp 16) (.tmp 16) 88 rfl w1.heap.size 4 k0 (.bool false) 1 Try.underlying88 hK0.out hK1.out hK2.out _ _ _ _ N rfl rfl rfl rfl (by rw [hK3.out]; omega) (by unfold maxLen; omega) (Nat.le_refl _) ?_; intro w2 ho1 hg1; obtain ⟨h3, h4⟩ := mk_told (B := w.heap.size) hs1 ho1 hg1; rw [← tI_zero HLAB.out hN6] at h3; have HO := Lib.hid h3; have HB2 := Lib.hid (below_step hb1 h4); clear ho1 hg1 h3 h4)
    generalize w1.heap.size = g at *
    go_loopw [8, 6] (fun i v W => PRt w R N g i v W) (fun i _ _ => N - (intOf i).toNat)
    case atStart => exact PRt.mk 0 (Nat.zero_le _) rfl (PRow.nil _ _) HB2.out HO.out
    case round =>
      obtain ⟨k, hk, rfl, hP, hb, ht⟩ := hrel
      obtain ⟨wo, hwo⟩ : ∃ q, q = wr := ⟨_, rfl⟩
      subst hwo
      have hsb := hb.size
      have HP := Lib.hid hP
      have HB := Lib.hid hb
      have HT := Lib.hid ht
      clear hP hb ht HO HB2
      by_cases hlt : k < N
      · have hk1 : (k : Int) < N := by omega
        obtain ⟨g', cp, hv, -, hgb, hglt, -, hfr, hce⟩ := own_bools HT.out (by omega)
        injection hv with e1 e2 e3
        injection e1 with e1
        injection e1 with e1 _ _
        subst e1 e3
        have hc1 := hce k (by omega) hk1
        rw [Int.toNat_natCast, tI_sB hlt] at hc1
        have hleK := HLE.out (k : Int) ⟨by omega, by omega⟩
        have hyes := ptK_yes (R := R) (n := N) (k := k)
        have hno := ptK_no (R := R) (n := N) (k := k)
        have hskip := tI_skip HLAB.out (N := N) (k := k) hN6
        clear hfr hce
        by_cases hlk : at6 R (k : Int) = (k : Int)
        · have HY := Lib.hid (hyes hlk)
          rw [show decide (at6 R (k : Int) < k) = false from decide_eq_false (by omega)] at hc1
          have HLK := Lib.hid hlk
          clear hyes hno hskip hleK hlk
          go_wp2_with (go_at_call 64; refine (CP.out k hlt _ HB.out).mono ?_; rintro e w4 ⟨⟨iv, rfl, hiv⟩, hb4⟩)
          obtain ⟨gi, cpi, rfl, -, hgib, hgilt, -, -, -⟩ := own_bools hiv (by omega)
          have hne : g ≠ gi := by omega
          have hIV := Lib.hid (town_mono hiv hsb)
          have HP4 := Lib.hid (HP.out.later hb4)
          have HT4 := Lib.hid (town_later HT.out hb4)
          have HB4 := Lib.hid (HB.out.trans (hb4.mono hsb))
          have hs4 := HB4.out.size
          have HSPK := Lib.hid (fun x hx => by have := HSP.out k hlt x hx; rw [HLK.out] at this; exact this)
          clear hiv hb4 hc1
          go_loopw [11, 9] (fun j v W => PRi w4 w.heap.size R N g k j v W) (fun j _ _ => N - (intOf j).toNat)
          case atStart => exact PRi.mk 0 (Nat.zero_le _) rfl (World.ownsRow_nil _ _ _ _) (off_refl _ _) HT4.out
          case round =>
            obtain ⟨m, hm, rfl, ho, hg, ht⟩ := hrel
            obtain ⟨A2, cap2, rfl, hn3, hn4, -, -⟩ := own_ints ho
            have hsr := hg.size
            have HO := Lib.hid ho
            have HG := Lib.hid hg
            have HT5 := Lib.hid ht
            clear ho hg ht
            by_cases hml : m < N
            · have hi1 := (own_bools_at (hIV.out.kept HG.out (.inr (by simp [Value.ownBlock]; omega))) (x := (m : Int)) (by omega) (by omega)).1
              rw [Int.toNat_natCast, HSPK.out m hml] at hi1
              have hyes := clsK_yes (R := R) (i := (k : Int)) (m := m)
              have hno := clsK_no (R := R) (i := (k : Int)) (m := m)
              have htyes := tI_yes (R := R) (N := N) (k := k) (j := m) hml
              have htno := tI_no (R := R) (N := N) (k := k) (j := m)
              have hL1 := clsK_len R k m
              have hm1 : (m : Int) < N := by omega
              by_cases hxk : at6 R (m : Int) = k
              · have HY := Lib.hid (hyes hxk)
                have HTY := Lib.hid (htyes hxk)
                rw [show (at6 R (m : Int) == (k : Int)) = true by simpa using hxk] at hi1
                clear hyes hno htyes htno hxk
                go_wp2_with (at_builtin; go_loud (refine wpList_append_own _ rfl (.tmp 40) (.tmp 42) 48 rfl w4.heap.size 3 i0 (.int .i64 0) 1 8 Try.underlying48 hI0.out hI1.out hI2.out hI3.out rfl (by decide) _ _ _ rfl (HO.out.alloc _) ⟨wr.heap.size, 0, none⟩ 1 1 [.int .i64 (m : Int)] rfl rfl (tnews1 _ _ _) (tone1 _) (by unfold maxLen; omega) (by omega) (by simp; omega) ?_))
                intro v8 w8 hown8 hgrow8 _
                have HG8 := Lib.hid (off_grown (off_alloc HG.out (.cells #[.int .i64 (m : Int)] 3)) hgrow8 (fun q hq => ((HO.out.alloc (.cells #[.int .i64 (m : Int)] 3)).lt q hq).1))
                have HT8 := Lib.hid (own_beside (by decide) (HO.out.alloc (.cells #[.int .i64 (m : Int)] 3)) (HT5.out.alloc (.cells #[.int .i64 (m : Int)] 3)) hgrow8)
                have HR2 : Hid (w8.ownsRow w4.heap.size 3 1 v8 (clsK R k m ++ [(m : Int)]).length (icells (clsK R k m ++ [(m : Int)]))) := Lib.hid (by rw [List.length_append, icells_app]; exact hown8)
                obtain ⟨hc8, hf8⟩ := own_bools_at HT8.out (x := (m : Int)) (by omega) (by omega)
                rw [Int.toNat_natCast] at hc8 hf8
                have hs1 := HT8.out.stored m (.bool true)
                rw [bcells_set, HTY.out] at hs1
                have HTN := Lib.hid hs1.1
                have HRN := Lib.hid (own_beside (by decide) HT8.out HR2.out (off_set (off_refl w8 g) m (.bool true)))
                have HGN := Lib.hid (off_set HG8.out m (.bool true))
                clear hown8 hgrow8 hs1
                go_wp2
                go_roundw
                case rel => exact PRi.mk (m + 1) (by omega) (by go_num) (by rw [HY.out]; exact HRN.out) HGN.out HTN.out
                case measure => simp [intOf]; omega
              · have HN := Lib.hid (hno hxk)
                have HTN := Lib.hid (htno hxk)
                rw [show (at6 R (m : Int) == (k : Int)) = false by simpa using hxk] at hi1
                clear hyes hno htyes htno hxk
                go_wp2
                go_roundw
                case rel => exact PRi.mk (m + 1) (by omega) (by go_num) (by rw [HN.out]; exact HO.out) HG.out (by rw [HTN.out]; exact HT5.out)
                case measure => simp [intOf]; omega
            · have hmN : m = N := by omega
              subst hmN
              have hPl := ptK_len R m k
              have HPi := Lib.hid (HP4.out.beside HT4.out (by decide) (by decide) HG.out)
              have HBi := Lib.hid (HB4.out.trans (grown_below HG.out hs4 (fun q hq => by injection hq with hq; subst hq; exact hgb)))
              obtain ⟨PS, hps1, hps2, hps3⟩ := HPi.out
              have HPS := Lib.hid hps2
              have HPL : Hid (PS.length = (ptK R m k).length) := Lib.hid (by rw [← hps1, List.length_map])
              have hpl2 : PS.length ≤ 6 := by have := HPL.out; omega
              have HTE := Lib.hid (tI_end R m k)
              go_wp2_with (at_builtin; go_loud (refine wpList_append_own _ rfl (.tmp 47) (.tmp 49) 44 rfl w.heap.size 48 j0 (.slice none 0 0) 1 24 Try.underlying44 hJ0.out hJ1.out hJ2.out hJ3.out rfl (by decide) _ _ _ rfl (HPS.out.alloc _) ⟨wr.heap.size, 0, none⟩ 1 1 [.slice A2 (clsK R k m).length cap2] rfl rfl (tnews1 _ _ _) (by intro u hu; simp at hu; subst hu; rfl) (by unfold maxLen; omega) (by omega) (by simp; omega) ?_))
              intro v9 w9 hown9 hgrow9 _
              have hb9 : Below w.heap.size (wr.alloc (.cells #[.slice A2 (clsK R k m).length cap2] 48)) w9 := grown_below hgrow9 (by have := HBi.out.size; simp; omega) (fun q hq => ((HPS.out.alloc (.cells #[.slice A2 (clsK R k m).length cap2] 48)).lt q hq).1)
              have HB10 := Lib.hid ((HBi.out.alloc HBi.out.size (.cells #[.slice A2 (clsK R k m).length cap2] 48)).trans hb9)
              have HT9 := Lib.hid (own_beside (by decide) (HPS.out.alloc (.cells #[.slice A2 (clsK R k m).length cap2] 48)) (HT5.out.alloc (.cells #[.slice A2 (clsK R k m).length cap2] 48)) hgrow9)
              have HPN : Hid (PRow w9 w.heap.size v9 (ptK R m k ++ [clsK R k m])) := Lib.hid (by
                refine ⟨PS ++ [(.slice A2 (clsK R k m).length cap2, clsK R k m)], by rw [List.map_append, hps1]; rfl, ?_, fun p hpp => ?_⟩
                · rw [List.map_append, List.length_append]; exact hown9
                · rcases List.mem_append.1 hpp with hpp | hpp
                  · exact own_beside (by decide) (HPS.out.alloc (.cells #[.slice A2 (clsK R k m).length cap2] 48)) ((hps3 p hpp).alloc _) hgrow9
                  · have : p = (.slice A2 (clsK R k m).length cap2, clsK R k m) := by simpa using hpp
                    subst this
                    exact own_beside (by decide) (HPS.out.alloc (.cells #[.slice A2 (clsK R k m).length cap2] 48)) ((town_mono HO.out hs4).alloc _) hgrow9)
              clear hown9 hgrow9 hb9 hps1 hps2 hps3
              go_wp2
              go_roundw
              case rel => exact PRt.mk (k + 1) (by omega) (by go_num) (by rw [HY.out]; exact HPN.out) HB10.out (by rw [← HTE.out]; exact HT9.out)
              case measure => simp [intOf]; omega
        · have HN := Lib.hid (hno hlk)
          have HSK := Lib.hid (hskip hlk)
          rw [show decide (at6 R (k : Int) < k) = true from decide_eq_true (by omega)] at hc1
          clear hyes hno hskip hleK hlk
          go_wp2
          go_roundw
          case rel => exact PRt.mk (k + 1) (by omega) (by go_num) (by rw [HN.out]; exact HP.out) HB.out (by rw [HSK.out]; exact HT.out)
          case measure => simp [intOf]; omega
      · have hkN : k = N := by omega
        subst hkN
        go_wp2
        go_ret2
        exact ⟨⟨_, rfl, HP.out⟩, HB.out⟩
end Go.Proofs.Ytcpnipnaidihaaa

namespace Go.Proofs.Ytcpnipnaidihaaa
open Go.RowKit
attribute [local go_sem] Later.cell Same.cell

/-- The cells of a row of rows. -/
def SRow (W : World) (B : Nat) (A : Option Addr) (L : List (List Int)) : Prop :=
  ∀ k, k < L.length → ∃ b cap xs A', A = some ⟨b, 0, none⟩ ∧ b < B ∧ W.cell? ⟨b, k, none⟩ = some (.slice A' xs.length cap) ∧ L[k]? = some xs ∧ xs.length ≤ maxLen ∧ Ints W B A' xs.length xs
theorem PRow.open {W : World} {base : Nat} {v : Value} {L : List (List Int)} (h : PRow W base v L) : ∃ A cap, v = .slice A L.length cap ∧ L.length ≤ cap ∧ cap ≤ maxLen ∧ SRow W W.heap.size A L := by
  obtain ⟨PS, h1, ⟨h2, h4⟩, h3⟩ := h
  have hl : PS.length = L.length := by rw [← h1, List.length_map]
  rw [List.length_map] at h2
  rcases h4 with ⟨rfl, h5⟩ | ⟨g, cap, cur, rfl, hb, hg, hnc, hm, hcs, ht⟩
  · have hz : PS = [] := by simpa using h5
    subst hz
    simp at h1
    subst h1
    exact ⟨none, 0, rfl, Nat.le_refl _, Nat.zero_le _, fun k hk => absurd hk (by simp)⟩
  · have hlt : g < W.heap.size := (Array.getElem?_eq_some_iff.1 hg).1
    rw [hl]
    refine ⟨_, cap, rfl, by omega, hm, fun k hk => ?_⟩
    have hk2 : k < PS.length := by omega
    obtain ⟨A', cp, hv, hn1, hn2, hI, -⟩ := own_ints (h3 PS[k] (List.getElem_mem hk2))
    refine ⟨g, cp, PS[k].2, A', rfl, hlt, ?_, ?_, by omega, hI⟩
    · have : (PS.map Prod.fst)[k]? = some (.slice A' PS[k].2.length cp) := by
        rw [List.getElem?_map, List.getElem?_eq_getElem hk2, Option.map_some, hv]
      rw [← ht] at this
      simp only [World.cell?, hg]
      rw [List.getElem?_take] at this
      split at this
      · simpa using this
      · cases this
    · rw [← h1, List.getElem?_map, List.getElem?_eq_getElem hk2, Option.map_some]
theorem SRow.below {W W' : World} {B : Nat} {A : Option Addr} {L : List (List Int)} (h : SRow W B A L) (hb : Below B W W') : SRow W' B A L := fun k hk => by
  obtain ⟨b, cap, xs, A', h1, h2, h3, h4, h5, h6⟩ := h k hk
  exact ⟨b, cap, xs, A', h1, h2, by rw [hb.cell (p := ⟨b, k, none⟩) h2]; exact h3, h4, h5, h6.below hb⟩
theorem SRow.more {W : World} {B B' : Nat} {A : Option Addr} {L : List (List Int)} (h : SRow W B A L) (hb : B ≤ B') : SRow W B' A L := fun k hk => by
  obtain ⟨b, cap, xs, A', h1, h2, h3, h4, h5, h6⟩ := h k hk
  exact ⟨b, cap, xs, A', h1, by omega, h3, h4, h5, h6.more hb⟩
set_option maxRecDepth 20000 in
set_option maxHeartbeats 4000000 in
theorem nets_walk (n : Int) (A : Option Addr) (len cap : Nat) (l : List Tp) (a b : Int) (w : World)
    (_ : -9223372036854775808 ≤ n ∧ n ≤ 9223372036854775807)
    (hm : len ≤ cap ∧ cap ≤ 9223372036854775807) (hx : Rows 3 int3 (0,0,0) w w.heap.size A len l) (_ : ∀ x ∈ l, (-9223372036854775808 ≤ x.1 ∧ x.1 ≤ 9223372036854775807) ∧ (-9223372036854775808 ≤ x.2.1 ∧ x.2.1 ≤ 9223372036854775807) ∧ (-9223372036854775808 ≤ x.2.2 ∧ x.2.2 ≤ 9223372036854775807))
    (_ : -9223372036854775808 ≤ a ∧ a ≤ 9223372036854775807) (_ : -9223372036854775808 ≤ b ∧ b ≤ 9223372036854775807) :
    Calls Try.prog 6 #[.agg #[.int .i64 n, .slice A len cap], .int .i64 a, .int .i64 b] w fun e w' => e = .returned (.bool true) ∧ Below w.heap.size w w' := by
  have c0 := fun W => tsmall_any n A len cap W
  by_cases hs : decide (len ≤ 30) = true
  · rw [hs] at c0
    have c1 := fun W (hh : Below w.heap.size w W) => Joined_any n A len cap l a b W (by omega) ((hx.below hh).more hh.size)
    have c2 := fun W (hh : Below w.heap.size w W) => rJoined_any n A len cap l a b W (by omega) ((hx.below hh).more hh.size)
    have c3 := fun W (hh : Below w.heap.size w W) => Valid_any n A len cap l W (by omega) ((hx.below hh).more hh.size)
    have c4 := fun W (hh : Below w.heap.size w W) => rValid_any n A len cap l W (by omega) ((hx.below hh).more hh.size)
    have c5 := fun W (hh : Below w.heap.size w W) => Parts_any5 n A len cap l W (by omega) ((hx.below hh).more hh.size)
    have c6 := fun W (hh : Below w.heap.size w W) => rParts_any5 n A len cap l W (by omega) ((hx.below hh).more hh.size)
    have c7 := fun W (hh : Below w.heap.size w W) => Bridges_any n A len cap l W (by omega) ((hx.below hh).more hh.size)
    have c8 := fun W (hh : Below w.heap.size w W) => rBridges_any n A len cap l W hm.1 (by omega) ((hx.below hh).more hh.size)
    have c9 := fun W (hh : Below w.heap.size w W) => Trees_any n A len cap l W (by omega) ((hx.below hh).more hh.size)
    have c10 := fun W (hh : Below w.heap.size w W) => rTrees_any n A len cap l W hm.1 (by omega) ((hx.below hh).more hh.size)
    generalize jnV n l a b = V1 at *
    generalize askE n l [a, b] = E1 at *
    generalize vNet n l = V2 at *
    generalize paE n l = E3 at *
    generalize paL n l = L3 at *
    generalize brE n l = E4 at *
    generalize brL n l = L4 at *
    generalize trE n l = E5 at *
    generalize trV n l = V5 at *
    have C0 := Lib.hid c0
    have C1 := Lib.hid c1
    have C2 := Lib.hid c2
    have C3 := Lib.hid c3
    have C4 := Lib.hid c4
    have C5 := Lib.hid c5
    have C6 := Lib.hid c6
    have C7 := Lib.hid c7
    have C8 := Lib.hid c8
    have C9 := Lib.hid c9
    have C10 := Lib.hid c10
    clear c0 c1 c2 c3 c4 c5 c6 c7 c8 c9 c10 hx hs
    have hV1 : (V1 == V1) = true := by simp
    have hV2 : (V2 == V2) = true := by simp
    go_enter Try.func6, Try.ntmps6
    go_wp2_with fail
    refine (C0.out _).mono ?_
    rintro e w0 ⟨rfl, hb⟩
    have hB_w0 : Below w.heap.size w w0 := (by repeat (first | exact Below.refl _ _ | assumption | refine Below.setCell ?_ (by first | (simp; done) | (simp; omega) | omega) _ | refine Below.drew ?_ | refine below_drewN ?_ _ | refine Below.alloc ?_ (by first | (simp; done) | (simp; omega) | omega) _ | refine below_alloc ?_ _ | refine below_step ?_ (by assumption))); have hz_w0 := hB_w0.size; have hsw00 : w.heap.size < w0.heap.size := Nat.lt_of_lt_of_le (by first | (simp; done) | (simp; omega) | omega) hb.size; have hnw00 : ¬ w.heap.size = w0.heap.size := (by omega); have hmw00 : ¬ w0.heap.size = w.heap.size := (by omega); have hlw00_0 : w.heap.size ≤ w0.heap.size := (by omega); have hlw00_1 : w.heap.size ≤ w0.heap.size + 1 := (by omega); have hlw00_2 : w.heap.size ≤ w0.heap.size + 1 + 1 := (by omega); have hkw00 : w0.cell? ⟨w.heap.size, 0, none⟩ = some (.int .i64 n) := (by rw [hb.cell (p := ⟨w.heap.size, 0, none⟩) (by first | (simp; done) | (simp; omega) | omega)]; first | (go_simp; done) | assumption); have hkw01 : w0.cell? ⟨w.heap.size, 1, none⟩ = some (.slice A len cap) := (by rw [hb.cell (p := ⟨w.heap.size, 1, none⟩) (by first | (simp; done) | (simp; omega) | omega)]; first | (go_simp; done) | assumption); clear hb
    go_wp2_with fail
    refine (C1.out _ (by repeat (first | exact Below.refl _ _ | assumption | refine Below.setCell ?_ (by first | (simp; done) | (simp; omega) | omega) _ | refine Below.drew ?_ | refine below_drewN ?_ _ | refine Below.alloc ?_ (by first | (simp; done) | (simp; omega) | omega) _ | refine below_alloc ?_ _ | refine below_step ?_ (by assumption)))).mono ?_
    rintro e w1 ⟨rfl, hb⟩
    have hB_w1 : Below w.heap.size w w1 := (by repeat (first | exact Below.refl _ _ | assumption | refine Below.setCell ?_ (by first | (simp; done) | (simp; omega) | omega) _ | refine Below.drew ?_ | refine below_drewN ?_ _ | refine Below.alloc ?_ (by first | (simp; done) | (simp; omega) | omega) _ | refine below_alloc ?_ _ | refine below_step ?_ (by assumption))); have hz_w1 := hB_w1.size; have hsw10 : w.heap.size < w1.heap.size := Nat.lt_of_lt_of_le (by first | (simp; done) | (simp; omega) | omega) hb.size; have hnw10 : ¬ w.heap.size = w1.heap.size := (by omega); have hmw10 : ¬ w1.heap.size = w.heap.size := (by omega); have hlw10_0 : w.heap.size ≤ w1.heap.size := (by omega); have hlw10_1 : w.heap.size ≤ w1.heap.size + 1 := (by omega); have hlw10_2 : w.heap.size ≤ w1.heap.size + 1 + 1 := (by omega); have hkw10 : w1.cell? ⟨w.heap.size, 0, none⟩ = some (.int .i64 n) := (by rw [hb.cell (p := ⟨w.heap.size, 0, none⟩) (by first | (simp; done) | (simp; omega) | omega)]; first | (go_simp; done) | assumption); have hkw11 : w1.cell? ⟨w.heap.size, 1, none⟩ = some (.slice A len cap) := (by rw [hb.cell (p := ⟨w.heap.size, 1, none⟩) (by first | (simp; done) | (simp; omega) | omega)]; first | (go_simp; done) | assumption); clear hb hB_w0 hlw00_0 hlw00_1 hlw00_2 hkw00 hkw01
    go_wp2_with fail
    refine (C2.out _ (by repeat (first | exact Below.refl _ _ | assumption | refine Below.setCell ?_ (by first | (simp; done) | (simp; omega) | omega) _ | refine Below.drew ?_ | refine below_drewN ?_ _ | refine Below.alloc ?_ (by first | (simp; done) | (simp; omega) | omega) _ | refine below_alloc ?_ _ | refine below_step ?_ (by assumption)))).mono ?_
    rintro e w2 ⟨rfl, hb⟩
    have hB_w2 : Below w.heap.size w w2 := (by repeat (first | exact Below.refl _ _ | assumption | refine Below.setCell ?_ (by first | (simp; done) | (simp; omega) | omega) _ | refine Below.drew ?_ | refine below_drewN ?_ _ | refine Below.alloc ?_ (by first | (simp; done) | (simp; omega) | omega) _ | refine below_alloc ?_ _ | refine below_step ?_ (by assumption))); have hz_w2 := hB_w2.size; have hsw20 : w.heap.size < w2.heap.size := Nat.lt_of_lt_of_le (by first | (simp; done) | (simp; omega) | omega) hb.size; have hnw20 : ¬ w.heap.size = w2.heap.size := (by omega); have hmw20 : ¬ w2.heap.size = w.heap.size := (by omega); have hlw20_0 : w.heap.size ≤ w2.heap.size := (by omega); have hlw20_1 : w.heap.size ≤ w2.heap.size + 1 := (by omega); have hlw20_2 : w.heap.size ≤ w2.heap.size + 1 + 1 := (by omega); have hkw20 : w2.cell? ⟨w.heap.size, 0, none⟩ = some (.int .i64 n) := (by rw [hb.cell (p := ⟨w.heap.size, 0, none⟩) (by first | (simp; done) | (simp; omega) | omega)]; first | (go_simp; done) | assumption); have hkw21 : w2.cell? ⟨w.heap.size, 1, none⟩ = some (.slice A len cap) := (by rw [hb.cell (p := ⟨w.heap.size, 1, none⟩) (by first | (simp; done) | (simp; omega) | omega)]; first | (go_simp; done) | assumption); clear hb hB_w1 hlw10_0 hlw10_1 hlw10_2 hkw10 hkw11
    go_wp2_with fail
    (refine wp_region_later (by kernel_rfl) (by kernel_rfl) ?_; (repeat (go_big_quiet_step ((first | (go_at_call 27; exact later_call (C3.out _ (hB_w2.trans ((‹Later w2›).h.mono hz_w2)))) | (go_at_call 28; exact later_call (C4.out _ (hB_w2.trans ((‹Later w2›).h.mono hz_w2)))))))); refine wpQuiet_nil ?_)
    intro w3 hb
    have hB_w3 : Below w.heap.size w w3 := (by repeat (first | exact Below.refl _ _ | assumption | refine Below.setCell ?_ (by first | (simp; done) | (simp; omega) | omega) _ | refine Below.drew ?_ | refine below_drewN ?_ _ | refine Below.alloc ?_ (by first | (simp; done) | (simp; omega) | omega) _ | refine below_alloc ?_ _ | refine below_step ?_ (by assumption))); have hz_w3 := hB_w3.size; have hsw30 : w.heap.size < w3.heap.size := Nat.lt_of_lt_of_le (by first | (simp; done) | (simp; omega) | omega) hb.size; have hnw30 : ¬ w.heap.size = w3.heap.size := (by omega); have hmw30 : ¬ w3.heap.size = w.heap.size := (by omega); have hlw30_0 : w.heap.size ≤ w3.heap.size := (by omega); have hlw30_1 : w.heap.size ≤ w3.heap.size + 1 := (by omega); have hlw30_2 : w.heap.size ≤ w3.heap.size + 1 + 1 := (by omega); have hkw30 : w3.cell? ⟨w.heap.size, 0, none⟩ = some (.int .i64 n) := (by rw [hb.cell (p := ⟨w.heap.size, 0, none⟩) (by first | (simp; done) | (simp; omega) | omega)]; first | (go_simp; done) | assumption); have hkw31 : w3.cell? ⟨w.heap.size, 1, none⟩ = some (.slice A len cap) := (by rw [hb.cell (p := ⟨w.heap.size, 1, none⟩) (by first | (simp; done) | (simp; omega) | omega)]; first | (go_simp; done) | assumption); clear hb hB_w2 hlw20_0 hlw20_1 hlw20_2 hkw20 hkw21
    go_wp2_with fail
    refine (C5.out _ (by repeat (first | exact Below.refl _ _ | assumption | refine Below.setCell ?_ (by first | (simp; done) | (simp; omega) | omega) _ | refine Below.drew ?_ | refine below_drewN ?_ _ | refine Below.alloc ?_ (by first | (simp; done) | (simp; omega) | omega) _ | refine below_alloc ?_ _ | refine below_step ?_ (by assumption)))).mono ?_
    rintro e w4 ⟨⟨v4, rfl, hP4⟩, hb⟩
    obtain ⟨P4, cp4, rfl, hcl4, hcm4, hS4⟩ := hP4.open
    have HS4 := Lib.hid hS4
    clear hP4 hS4
    have hB_w4 : Below w.heap.size w w4 := (by repeat (first | exact Below.refl _ _ | assumption | refine Below.setCell ?_ (by first | (simp; done) | (simp; omega) | omega) _ | refine Below.drew ?_ | refine below_drewN ?_ _ | refine Below.alloc ?_ (by first | (simp; done) | (simp; omega) | omega) _ | refine below_alloc ?_ _ | refine below_step ?_ (by assumption))); have hz_w4 := hB_w4.size; have hsw40 : w.heap.size < w4.heap.size := Nat.lt_of_lt_of_le (by first | (simp; done) | (simp; omega) | omega) hb.size; have hnw40 : ¬ w.heap.size = w4.heap.size := (by omega); have hmw40 : ¬ w4.heap.size = w.heap.size := (by omega); have hlw40_0 : w.heap.size ≤ w4.heap.size := (by omega); have hlw40_1 : w.heap.size ≤ w4.heap.size + 1 := (by omega); have hlw40_2 : w.heap.size ≤ w4.heap.size + 1 + 1 := (by omega); have hkw40 : w4.cell? ⟨w.heap.size, 0, none⟩ = some (.int .i64 n) := (by rw [hb.cell (p := ⟨w.heap.size, 0, none⟩) (by first | (simp; done) | (simp; omega) | omega)]; first | (go_simp; done) | assumption); have hkw41 : w4.cell? ⟨w.heap.size, 1, none⟩ = some (.slice A len cap) := (by rw [hb.cell (p := ⟨w.heap.size, 1, none⟩) (by first | (simp; done) | (simp; omega) | omega)]; first | (go_simp; done) | assumption); clear hb hB_w3 hlw30_0 hlw30_1 hlw30_2 hkw30 hkw31
    go_wp2_with fail
    refine (C6.out _ (by repeat (first | exact Below.refl _ _ | assumption | refine Below.setCell ?_ (by first | (simp; done) | (simp; omega) | omega) _ | refine Below.drew ?_ | refine below_drewN ?_ _ | refine Below.alloc ?_ (by first | (simp; done) | (simp; omega) | omega) _ | refine below_alloc ?_ _ | refine below_step ?_ (by assumption)))).mono ?_
    rintro e w5 ⟨⟨v5, rfl, hP5⟩, hb⟩
    obtain ⟨P5, cp5, rfl, hcl5, hcm5, hS5⟩ := hP5.open
    have HS5 := Lib.hid hS5
    have HS6 := Lib.hid ((HS4.out.below hb).more hb.size)
    clear hP5 hS5 HS4
    have hB_w5 : Below w.heap.size w w5 := (by repeat (first | exact Below.refl _ _ | assumption | refine Below.setCell ?_ (by first | (simp; done) | (simp; omega) | omega) _ | refine Below.drew ?_ | refine below_drewN ?_ _ | refine Below.alloc ?_ (by first | (simp; done) | (simp; omega) | omega) _ | refine below_alloc ?_ _ | refine below_step ?_ (by assumption))); have hz_w5 := hB_w5.size; have hsw50 : w.heap.size < w5.heap.size := Nat.lt_of_lt_of_le (by first | (simp; done) | (simp; omega) | omega) hb.size; have hnw50 : ¬ w.heap.size = w5.heap.size := (by omega); have hmw50 : ¬ w5.heap.size = w.heap.size := (by omega); have hlw50_0 : w.heap.size ≤ w5.heap.size := (by omega); have hlw50_1 : w.heap.size ≤ w5.heap.size + 1 := (by omega); have hlw50_2 : w.heap.size ≤ w5.heap.size + 1 + 1 := (by omega); have hkw50 : w5.cell? ⟨w.heap.size, 0, none⟩ = some (.int .i64 n) := (by rw [hb.cell (p := ⟨w.heap.size, 0, none⟩) (by first | (simp; done) | (simp; omega) | omega)]; first | (go_simp; done) | assumption); have hkw51 : w5.cell? ⟨w.heap.size, 1, none⟩ = some (.slice A len cap) := (by rw [hb.cell (p := ⟨w.heap.size, 1, none⟩) (by first | (simp; done) | (simp; omega) | omega)]; first | (go_simp; done) | assumption); clear hb hB_w4 hlw40_0 hlw40_1 hlw40_2 hkw40 hkw41
    unfold maxLen at hcm4 hcm5
    go_wp2_with fail
    go_loopw [13] (fun i W => ∃ k : Nat, k ≤ L3.length ∧ i = .int .i64 k ∧ Below w5.heap.size w5 W) (fun i _ => L3.length - (intOf i).toNat)
    case atStart => exact ⟨0, Nat.zero_le _, rfl, Below.refl _ _⟩
    case round =>
      obtain ⟨k, hk, rfl, hb⟩ := hrel
      have hsz := hb.size
      by_cases hlt : k < L3.length
      · obtain ⟨b1, k1, xs, A1, rfl, hb1, hc1, hx1, hm1, hI1⟩ := (HS6.out.below hb) k hlt
        obtain ⟨b2, k2, ys, A2, rfl, hb2, hc2, hx2, hm2, hI2⟩ := (HS5.out.below hb) k hlt
        have hxy : ys = xs := Option.some.inj (hx2.symm.trans hx1)
        subst hxy
        have hk1 : (k : Int) < L3.length := by omega
        unfold maxLen at hm1
        have hb1' : b1 < wr.heap.size := by omega
        have hb2' : b2 < wr.heap.size := by omega
        have c11 := fun W (h : Below wr.heap.size wr W) => SameInts_any A1 ys.length k1 ys A2 ys.length k2 ys W (by omega) (by omega) (((hI1.more hsz).below h).more h.size) (((hI2.more hsz).below h).more h.size)
        rw [show decide (ys = ys) = true by simp] at c11
        have C11 := Lib.hid c11
        clear c11 hI1 hI2 hx1 hx2
        go_wp2
        (refine wp_region_later (by kernel_rfl) (by kernel_rfl) ?_; (repeat (go_big_quiet_step ((go_at_call 31; exact later_call (C11.out _ (‹Later wr›).h))))); refine wpQuiet_nil ?_)
        intro w6 hb6
        have hb7 := hb.trans (hb6.mono hsz)
        go_wp2
        go_roundw
        case rel => exact ⟨k + 1, by omega, by go_num, hb7⟩
        case measure => simp [intOf]; omega
      · have hkN : k = L3.length := by omega
        subst hkN
        obtain ⟨w6, hw6⟩ : ∃ q, q = wr := ⟨_, rfl⟩
        subst hw6
        have hB_w6 : Below w.heap.size w w6 := (by repeat (first | exact Below.refl _ _ | assumption | refine Below.setCell ?_ (by first | (simp; done) | (simp; omega) | omega) _ | refine Below.drew ?_ | refine below_drewN ?_ _ | refine Below.alloc ?_ (by first | (simp; done) | (simp; omega) | omega) _ | refine below_alloc ?_ _ | refine below_step ?_ (by assumption))); have hz_w6 := hB_w6.size; have hsw60 : w.heap.size < w6.heap.size := Nat.lt_of_lt_of_le (by first | (simp; done) | (simp; omega) | omega) hb.size; have hnw60 : ¬ w.heap.size = w6.heap.size := (by omega); have hmw60 : ¬ w6.heap.size = w.heap.size := (by omega); have hlw60_0 : w.heap.size ≤ w6.heap.size := (by omega); have hlw60_1 : w.heap.size ≤ w6.heap.size + 1 := (by omega); have hlw60_2 : w.heap.size ≤ w6.heap.size + 1 + 1 := (by omega); have hkw60 : w6.cell? ⟨w.heap.size, 0, none⟩ = some (.int .i64 n) := (by rw [hb.cell (p := ⟨w.heap.size, 0, none⟩) (by first | (simp; done) | (simp; omega) | omega)]; first | (go_simp; done) | assumption); have hkw61 : w6.cell? ⟨w.heap.size, 1, none⟩ = some (.slice A len cap) := (by rw [hb.cell (p := ⟨w.heap.size, 1, none⟩) (by first | (simp; done) | (simp; omega) | omega)]; first | (go_simp; done) | assumption); clear hb hB_w5 hlw50_0 hlw50_1 hlw50_2 hkw50 hkw51
        clear HS5 HS6
        go_wp2_with fail
        refine (C7.out _ (by repeat (first | exact Below.refl _ _ | assumption | refine Below.setCell ?_ (by first | (simp; done) | (simp; omega) | omega) _ | refine Below.drew ?_ | refine below_drewN ?_ _ | refine Below.alloc ?_ (by first | (simp; done) | (simp; omega) | omega) _ | refine below_alloc ?_ _ | refine below_step ?_ (by assumption)))).mono ?_
        rintro e w7 ⟨⟨v7, rfl, ho7⟩, hb⟩
        obtain ⟨A7, k7, rfl, hm7, hn7, hI7, -⟩ := own_ints ho7
        have HI7 := Lib.hid hI7
        clear ho7 hI7
        have hB_w7 : Below w.heap.size w w7 := (by repeat (first | exact Below.refl _ _ | assumption | refine Below.setCell ?_ (by first | (simp; done) | (simp; omega) | omega) _ | refine Below.drew ?_ | refine below_drewN ?_ _ | refine Below.alloc ?_ (by first | (simp; done) | (simp; omega) | omega) _ | refine below_alloc ?_ _ | refine below_step ?_ (by assumption))); have hz_w7 := hB_w7.size; have hsw70 : w.heap.size < w7.heap.size := Nat.lt_of_lt_of_le (by first | (simp; done) | (simp; omega) | omega) hb.size; have hnw70 : ¬ w.heap.size = w7.heap.size := (by omega); have hmw70 : ¬ w7.heap.size = w.heap.size := (by omega); have hlw70_0 : w.heap.size ≤ w7.heap.size := (by omega); have hlw70_1 : w.heap.size ≤ w7.heap.size + 1 := (by omega); have hlw70_2 : w.heap.size ≤ w7.heap.size + 1 + 1 := (by omega); have hkw70 : w7.cell? ⟨w.heap.size, 0, none⟩ = some (.int .i64 n) := (by rw [hb.cell (p := ⟨w.heap.size, 0, none⟩) (by first | (simp; done) | (simp; omega) | omega)]; first | (go_simp; done) | assumption); have hkw71 : w7.cell? ⟨w.heap.size, 1, none⟩ = some (.slice A len cap) := (by rw [hb.cell (p := ⟨w.heap.size, 1, none⟩) (by first | (simp; done) | (simp; omega) | omega)]; first | (go_simp; done) | assumption); clear hb hB_w6 hlw60_0 hlw60_1 hlw60_2 hkw60 hkw61
        go_wp2_with fail
        refine (C8.out _ (by repeat (first | exact Below.refl _ _ | assumption | refine Below.setCell ?_ (by first | (simp; done) | (simp; omega) | omega) _ | refine Below.drew ?_ | refine below_drewN ?_ _ | refine Below.alloc ?_ (by first | (simp; done) | (simp; omega) | omega) _ | refine below_alloc ?_ _ | refine below_step ?_ (by assumption)))).mono ?_
        rintro e w8 ⟨⟨v8, rfl, ho8⟩, hb⟩
        obtain ⟨A8, k8, rfl, hm8, hn8, hI8, -⟩ := own_ints ho8
        have HI8 := Lib.hid hI8
        have HI9 := Lib.hid ((HI7.out.below hb).more hb.size)
        clear ho8 hI8 HI7
        have hB_w8 : Below w.heap.size w w8 := (by repeat (first | exact Below.refl _ _ | assumption | refine Below.setCell ?_ (by first | (simp; done) | (simp; omega) | omega) _ | refine Below.drew ?_ | refine below_drewN ?_ _ | refine Below.alloc ?_ (by first | (simp; done) | (simp; omega) | omega) _ | refine below_alloc ?_ _ | refine below_step ?_ (by assumption))); have hz_w8 := hB_w8.size; have hsw80 : w.heap.size < w8.heap.size := Nat.lt_of_lt_of_le (by first | (simp; done) | (simp; omega) | omega) hb.size; have hnw80 : ¬ w.heap.size = w8.heap.size := (by omega); have hmw80 : ¬ w8.heap.size = w.heap.size := (by omega); have hlw80_0 : w.heap.size ≤ w8.heap.size := (by omega); have hlw80_1 : w.heap.size ≤ w8.heap.size + 1 := (by omega); have hlw80_2 : w.heap.size ≤ w8.heap.size + 1 + 1 := (by omega); have hkw80 : w8.cell? ⟨w.heap.size, 0, none⟩ = some (.int .i64 n) := (by rw [hb.cell (p := ⟨w.heap.size, 0, none⟩) (by first | (simp; done) | (simp; omega) | omega)]; first | (go_simp; done) | assumption); have hkw81 : w8.cell? ⟨w.heap.size, 1, none⟩ = some (.slice A len cap) := (by rw [hb.cell (p := ⟨w.heap.size, 1, none⟩) (by first | (simp; done) | (simp; omega) | omega)]; first | (go_simp; done) | assumption); clear hb hB_w7 hlw70_0 hlw70_1 hlw70_2 hkw70 hkw71
        have c12 := fun W (h : Below w8.heap.size w8 W) => SameInts_any A7 L4.length k7 L4 A8 L4.length k8 L4 W (by unfold maxLen at hn7; omega) (by unfold maxLen at hn8; omega) ((HI9.out.below h).more h.size) ((HI8.out.below h).more h.size)
        rw [show decide (L4 = L4) = true by simp] at c12
        have C12 := Lib.hid c12
        clear c12
        go_wp2_with (go_at_call 31; refine (C12.out _ (by repeat (first | exact Below.refl _ _ | assumption | refine Below.setCell ?_ (by first | (simp; done) | (simp; omega) | omega) _ | refine Below.drew ?_ | refine below_drewN ?_ _ | refine Below.alloc ?_ (by first | (simp; done) | (simp; omega) | omega) _ | refine below_alloc ?_ _ | refine below_step ?_ (by assumption)))).mono ?_; rintro e w9 ⟨rfl, hb⟩; have hB_w9 : Below w.heap.size w w9 := (by repeat (first | exact Below.refl _ _ | assumption | refine Below.setCell ?_ (by first | (simp; done) | (simp; omega) | omega) _ | refine Below.drew ?_ | refine below_drewN ?_ _ | refine Below.alloc ?_ (by first | (simp; done) | (simp; omega) | omega) _ | refine below_alloc ?_ _ | refine below_step ?_ (by assumption))); have hz_w9 := hB_w9.size; have hsw90 : w.heap.size < w9.heap.size := Nat.lt_of_lt_of_le (by first | (simp; done) | (simp; omega) | omega) hb.size; have hnw90 : ¬ w.heap.size = w9.heap.size := (by omega); have hmw90 : ¬ w9.heap.size = w.heap.size := (by omega); have hlw90_0 : w.heap.size ≤ w9.heap.size := (by omega); have hlw90_1 : w.heap.size ≤ w9.heap.size + 1 := (by omega); have hlw90_2 : w.heap.size ≤ w9.heap.size + 1 + 1 := (by omega); have hkw90 : w9.cell? ⟨w.heap.size, 0, none⟩ = some (.int .i64 n) := (by rw [hb.cell (p := ⟨w.heap.size, 0, none⟩) (by first | (simp; done) | (simp; omega) | omega)]; first | (go_simp; done) | assumption); have hkw91 : w9.cell? ⟨w.heap.size, 1, none⟩ = some (.slice A len cap) := (by rw [hb.cell (p := ⟨w.heap.size, 1, none⟩) (by first | (simp; done) | (simp; omega) | omega)]; first | (go_simp; done) | assumption); clear hb hB_w8 hlw80_0 hlw80_1 hlw80_2 hkw80 hkw81)
        refine (C9.out _ (by repeat (first | exact Below.refl _ _ | assumption | refine Below.setCell ?_ (by first | (simp; done) | (simp; omega) | omega) _ | refine Below.drew ?_ | refine below_drewN ?_ _ | refine Below.alloc ?_ (by first | (simp; done) | (simp; omega) | omega) _ | refine below_alloc ?_ _ | refine below_step ?_ (by assumption)))).mono ?_
        rintro e w10 ⟨rfl, hb⟩
        have hB_w10 : Below w.heap.size w w10 := (by repeat (first | exact Below.refl _ _ | assumption | refine Below.setCell ?_ (by first | (simp; done) | (simp; omega) | omega) _ | refine Below.drew ?_ | refine below_drewN ?_ _ | refine Below.alloc ?_ (by first | (simp; done) | (simp; omega) | omega) _ | refine below_alloc ?_ _ | refine below_step ?_ (by assumption))); have hz_w10 := hB_w10.size; have hsw100 : w.heap.size < w10.heap.size := Nat.lt_of_lt_of_le (by first | (simp; done) | (simp; omega) | omega) hb.size; have hnw100 : ¬ w.heap.size = w10.heap.size := (by omega); have hmw100 : ¬ w10.heap.size = w.heap.size := (by omega); have hlw100_0 : w.heap.size ≤ w10.heap.size := (by omega); have hlw100_1 : w.heap.size ≤ w10.heap.size + 1 := (by omega); have hlw100_2 : w.heap.size ≤ w10.heap.size + 1 + 1 := (by omega); have hkw100 : w10.cell? ⟨w.heap.size, 0, none⟩ = some (.int .i64 n) := (by rw [hb.cell (p := ⟨w.heap.size, 0, none⟩) (by first | (simp; done) | (simp; omega) | omega)]; first | (go_simp; done) | assumption); have hkw101 : w10.cell? ⟨w.heap.size, 1, none⟩ = some (.slice A len cap) := (by rw [hb.cell (p := ⟨w.heap.size, 1, none⟩) (by first | (simp; done) | (simp; omega) | omega)]; first | (go_simp; done) | assumption); clear hb hB_w9 hlw90_0 hlw90_1 hlw90_2 hkw90 hkw91
        go_wp2_with fail
        refine (C10.out _ (by repeat (first | exact Below.refl _ _ | assumption | refine Below.setCell ?_ (by first | (simp; done) | (simp; omega) | omega) _ | refine Below.drew ?_ | refine below_drewN ?_ _ | refine Below.alloc ?_ (by first | (simp; done) | (simp; omega) | omega) _ | refine below_alloc ?_ _ | refine below_step ?_ (by assumption)))).mono ?_
        rintro e w11 ⟨rfl, hb⟩
        have hB_w11 : Below w.heap.size w w11 := (by repeat (first | exact Below.refl _ _ | assumption | refine Below.setCell ?_ (by first | (simp; done) | (simp; omega) | omega) _ | refine Below.drew ?_ | refine below_drewN ?_ _ | refine Below.alloc ?_ (by first | (simp; done) | (simp; omega) | omega) _ | refine below_alloc ?_ _ | refine below_step ?_ (by assumption))); have hz_w11 := hB_w11.size; have hsw110 : w.heap.size < w11.heap.size := Nat.lt_of_lt_of_le (by first | (simp; done) | (simp; omega) | omega) hb.size; have hnw110 : ¬ w.heap.size = w11.heap.size := (by omega); have hmw110 : ¬ w11.heap.size = w.heap.size := (by omega); have hlw110_0 : w.heap.size ≤ w11.heap.size := (by omega); have hlw110_1 : w.heap.size ≤ w11.heap.size + 1 := (by omega); have hlw110_2 : w.heap.size ≤ w11.heap.size + 1 + 1 := (by omega); have hkw110 : w11.cell? ⟨w.heap.size, 0, none⟩ = some (.int .i64 n) := (by rw [hb.cell (p := ⟨w.heap.size, 0, none⟩) (by first | (simp; done) | (simp; omega) | omega)]; first | (go_simp; done) | assumption); have hkw111 : w11.cell? ⟨w.heap.size, 1, none⟩ = some (.slice A len cap) := (by rw [hb.cell (p := ⟨w.heap.size, 1, none⟩) (by first | (simp; done) | (simp; omega) | omega)]; first | (go_simp; done) | assumption); clear hb hB_w10 hlw100_0 hlw100_1 hlw100_2 hkw100 hkw101
        go_wp2_with (go_at_call 23; refine (tawake_any _).mono ?_; rintro e w12 ⟨rfl, hb1⟩)
        go_ret
        exact ⟨rfl, (by repeat (first | exact Below.refl _ _ | assumption | refine Below.setCell ?_ (by first | (simp; done) | (simp; omega) | omega) _ | refine Below.drew ?_ | refine below_drewN ?_ _ | refine Below.alloc ?_ (by first | (simp; done) | (simp; omega) | omega) _ | refine below_alloc ?_ _ | refine below_step ?_ (by assumption)))⟩
  · have hs' : decide (len ≤ 30) = false := by simpa using hs
    rw [hs'] at c0
    have C0 := Lib.hid c0
    clear c0 hx hs hs'
    go_enter Try.func6, Try.ntmps6
    go_wp2_with (first | (go_at_call 22; refine (C0.out _).mono ?_; rintro e w' ⟨rfl, hb0⟩) | (go_at_call 23; refine (tawake_any _).mono ?_; rintro e w8 ⟨rfl, hb1⟩))
    go_ret
    exact ⟨rfl, (by repeat (first | exact Below.refl _ _ | assumption | refine Below.setCell ?_ (by first | (simp; done) | (simp; omega) | omega) _ | refine Below.drew ?_ | refine below_drewN ?_ _ | refine Below.alloc ?_ (by first | (simp; done) | (simp; omega) | omega) _ | refine below_alloc ?_ _ | refine below_step ?_ (by assumption)))⟩
end Go.Proofs.Ytcpnipnaidihaaa
