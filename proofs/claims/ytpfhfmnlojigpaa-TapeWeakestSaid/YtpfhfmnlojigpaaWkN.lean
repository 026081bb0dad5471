/- Joined by merge.py from: WkM Weak RWeak. -/
import Derived.Test.YtpfhfmnlojigpaaCmpN
import Derived.Test.YtpfhfmnlojigpaaRResN
import Derived.Test.YtpfhfmnlojigpaaMake2
import Derived.Test.YtpfhfmnlojigpaaTape9
set_option linter.unusedSimpArgs false
set_option linter.unusedVariables false
namespace Go.Proofs.Ytpfhfmnlojigpaa
open Go.RowKit

/-- What is looked at for the tape i: the resistance without it, or 10^18. -/
def wkR (l : List Tp) (a b : Int) (i : Nat) : Int × Int := if jnB (l.eraseIdx i) a b then (resN (l.eraseIdx i) a b, resD (l.eraseIdx i) a b) else (1000000000000000000, 1)
def wkS (l : List Tp) (a b : Int) : Nat → Nat × Int × Int
  | 0 => (0, -1, 1)
  | k + 1 => if 0 < cmpR (wkR l a b k).1 (wkR l a b k).2 (wkS l a b k).2.1 (wkS l a b k).2.2 then (k, wkR l a b k) else wkS l a b k
theorem wkS_succ (l : List Tp) (a b : Int) (k : Nat) : wkS l a b (k + 1) = if 0 < cmpR (wkR l a b k).1 (wkR l a b k).2 (wkS l a b k).2.1 (wkS l a b k).2.2 then (k, wkR l a b k) else wkS l a b k := rfl
theorem wkOk {l : List Tp} (h : okL l) (i : Nat) : okL (l.eraseIdx i) := fun t ht => h t (List.mem_of_mem_eraseIdx ht)
theorem wkLen {l : List Tp} (h : l.length ≤ 10) (i : Nat) : (l.eraseIdx i).length ≤ 10 := Nat.le_trans (List.length_eraseIdx_le ..) h
theorem res_bd {l : List Tp} (hl : okL l) (h10 : l.length ≤ 10) {a b : Int} (ha : nod a) : (0 ≤ resN l a b ∧ resN l a b ≤ 713342911662882601) ∧ 1 ≤ resD l a b ∧ resD l a b ≤ 713342911662882601 := by
  rw [(resN_low hl ha).1, (resN_low hl ha).2]
  have h1 := trees_pos hl ha
  have h2 := trees_bd hl h10 a
  have h3 := twos_bd hl h10 a a b
  have h4 := lowN_nonneg (twosN l a a b) (treesN l a) h1 h3.1
  have h5 := lowN_le (twosN l a a b) (treesN l a) h1 h3.1
  have h6 := lowD_pos (twosN l a a b) (treesN l a) h1
  have h7 := lowD_le (twosN l a a b) (treesN l a) h1
  omega
theorem wkR_bd {l : List Tp} (hl : okL l) (h10 : l.length ≤ 10) {a b : Int} (ha : nod a) (i : Nat) : (0 ≤ (wkR l a b i).1 ∧ (wkR l a b i).1 ≤ 1000000000000000000) ∧ 1 ≤ (wkR l a b i).2 ∧ (wkR l a b i).2 ≤ 1000000000000000000 := by
  unfold wkR
  split
  · have := res_bd (b := b) (wkOk hl i) (wkLen h10 i) ha
    dsimp only; omega
  · dsimp only; omega
theorem wkS_bd {l : List Tp} (hl : okL l) (h10 : l.length ≤ 10) {a b : Int} (ha : nod a) : ∀ k, (-1 ≤ (wkS l a b k).2.1 ∧ (wkS l a b k).2.1 ≤ 1000000000000000000) ∧ 1 ≤ (wkS l a b k).2.2 ∧ (wkS l a b k).2.2 ≤ 1000000000000000000
  | 0 => by simp [wkS]
  | k + 1 => by
    have h1 := wkR_bd (b := b) hl h10 ha k
    have h2 := wkS_bd (b := b) hl h10 ha k
    unfold wkS
    split
    · dsimp only; omega
    · exact h2
theorem wkS_le (l : List Tp) (a b : Int) : ∀ k, (wkS l a b k).1 ≤ k
  | 0 => Nat.le_refl _
  | k + 1 => by
    have := wkS_le l a b k
    unfold wkS
    split
    · exact Nat.le_succ k
    · omega
theorem cmp_pos {an ad bn bd : Int} (h1 : 1 ≤ ad) (h2 : 1 ≤ bd) : 0 < cmpR an ad bn bd ↔ bn * ad < an * bd := by
  unfold cmpR
  have e1 : den1 bd = bd := by unfold den1; rw [if_neg (by omega)]
  have e2 : den1 ad = ad := by unfold den1; rw [if_neg (by omega)]
  rw [e1, e2]
  rcases sgn_cases (an * bd - bn * ad) with ⟨h, h'⟩ | ⟨h, h'⟩ | ⟨h, h'⟩ <;> omega
theorem wkS_one {l : List Tp} (hl : okL l) (h10 : l.length ≤ 10) {a b : Int} (ha : nod a) : wkS l a b 1 = (0, wkR l a b 0) := by
  have h1 := wkR_bd (b := b) hl h10 ha 0
  have e : wkS l a b 0 = (0, -1, 1) := rfl
  rw [wkS_succ l a b 0, e, if_pos]
  dsimp only
  generalize wkR l a b 0 = r at *
  rw [cmp_pos (by omega) (by omega)]; omega
theorem wkS_jn {l : List Tp} (hl : okL l) (h10 : l.length ≤ 10) {a b : Int} (ha : nod a) : ∀ k, (∀ j, j < k → jnB (l.eraseIdx j) a b = true) → (wkS l a b k).2.1 ≤ 713342911662882601
  | 0, _ => by simp [wkS]
  | k + 1, h => by
    have h2 := wkS_jn (b := b) hl h10 ha k (fun j hj => h j (by omega))
    unfold wkS
    split
    · unfold wkR
      rw [if_pos (h k (by omega))]
      exact (res_bd (wkOk hl k) (wkLen h10 k) ha).1.2
    · exact h2
theorem wkS_stop {l : List Tp} (hl : okL l) (h10 : l.length ≤ 10) {a b : Int} (ha : nod a) {i : Nat} (h : ∀ j, j < i → jnB (l.eraseIdx j) a b = true) (h0 : jnB (l.eraseIdx i) a b = false) : ∀ m, wkS l a b (i + 1 + m) = (i, 1000000000000000000, 1)
  | 0 => by
    have h1 := wkS_jn hl h10 ha i h
    have h2 := wkS_bd (b := b) hl h10 ha i
    have hr : wkR l a b i = (1000000000000000000, 1) := by unfold wkR; rw [if_neg (by rw [h0]; decide)]
    rw [Nat.add_zero, wkS_succ, if_pos (by rw [hr, cmp_pos (by decide) (by omega)]; dsimp only; omega), hr]
  | m + 1 => by
    have h1 := wkS_stop hl h10 ha h h0 m
    have h2 := wkR_bd (b := b) hl h10 ha (i + 1 + m)
    rw [← Nat.add_assoc, wkS_succ, h1]
    dsimp only
    rw [if_neg (by rw [cmp_pos (by omega) (by decide)]; omega)]
theorem wk_stop {l : List Tp} (hl : okL l) (h10 : l.length ≤ 10) {a b : Int} (ha : nod a) {i n : Nat} (hi : i < n) (h : ∀ j, j < i → jnB (l.eraseIdx j) a b = true) (h0 : jnB (l.eraseIdx i) a b = false) : (wkS l a b n).1 = i := by
  have := wkS_stop hl h10 ha h h0 (n - i - 1)
  rw [show i + 1 + (n - i - 1) = n by omega] at this
  rw [this]
/-- The answer of Weakest: the tape, and the error. -/
def wkE (n : Int) (l : List Tp) (a b : Int) : Int := if askE n l [a, b] = 0 then (if jnB l a b && !(l.isEmpty) then 0 else 8) else askE n l [a, b]
def wkV (n : Int) (l : List Tp) (a b : Int) : Int := if wkE n l a b = 0 then ((wkS l a b l.length).1 : Int) else 0
end Go.Proofs.Ytpfhfmnlojigpaa

namespace Go.Proofs.Ytpfhfmnlojigpaa
open Go.RowKit
attribute [local go_sem] Later.cell Same.cell

def ca2 (x : Int × Int) : List Value := [.int .i64 x.1, .int .i64 x.2]
def WkI (w1 : World) (l : List Tp) (a b : Int) (M n : Nat) (i v : Value) (W : World) : Prop := ∃ k : Nat, k ≤ n ∧ i = .int .i64 k ∧ v = .int .i64 ((wkS l a b k).1 : Int) ∧ CA W M (ca2 (wkS l a b k).2) ∧ Below w1.heap.size w1 W
theorem WkI.mk {w1 : World} {l : List Tp} {a b : Int} {M n : Nat} {i v : Value} {W : World} (k : Nat) (h1 : k ≤ n) (h2 : i = .int .i64 k) (h3 : v = .int .i64 ((wkS l a b k).1 : Int)) (h4 : CA W M (ca2 (wkS l a b k).2)) (h5 : Below w1.heap.size w1 W) : WkI w1 l a b M n i v W := ⟨k, h1, h2, h3, h4, h5⟩
set_option maxRecDepth 20000 in
set_option maxHeartbeats 8000000 in
theorem Weakest_any (n : Int) (A : Option Addr) (len cap : Nat) (l : List Tp) (a b : Int) (w : World) (hm : len ≤ 9223372036854775807) (hx : Rows 3 int3 (0,0,0) w w.heap.size A len l) :
    Calls Try.prog 18 #[.int .i64 n, .slice A len cap, .int .i64 a, .int .i64 b] w fun e w' => e = .returned (.tuple #[.int .i64 (wkV n l a b), .int .i64 (wkE n l a b)]) ∧ Below w.heap.size w w' := by
  have c1 := fun W (h : Below w.heap.size w W) => Joined_any n A len cap l a b W hm ((hx.below h).more h.size)
  have hE : wkE n l a b = if askE n l [a, b] = 0 then (if jnB l a b && !(l.isEmpty) then 0 else 8) else askE n l [a, b] := rfl
  have hV : wkV n l a b = if wkE n l a b = 0 then ((wkS l a b l.length).1 : Int) else 0 := rfl
  have hj : jnV n l a b = (decide (askE n l [a, b] = 0) && jnB l a b) := rfl
  rw [hj] at c1
  clear hj
  have hll := hx.1
  rcases ask_cases n l a b with ⟨h0, hv, ha, hb⟩ | h0
  · rw [h0, decide_eq_true rfl, Bool.true_and] at c1
    rw [h0, if_pos rfl] at hE
    obtain ⟨hn, hlen, hl⟩ := vNet_spec hv
    rw [hll] at hlen
    cases hjb : jnB l a b
    · rw [hjb] at c1 hE
      rw [if_neg (by simp)] at hE
      rw [hE, if_neg (by decide)] at hV
      rw [hE, hV]
      have C1 := Lib.hid c1
      clear c1 hx hE hV h0 hv hl hjb
      go_enter Try.func18, Try.ntmps18
      go_wp2_with fail
      refine (C1.out _ (by repeat (first | exact Below.refl _ _ | assumption | refine Below.setCell ?_ (by first | (simp; done) | (simp; omega) | omega) _ | refine Below.drew ?_ | refine below_drewN ?_ _ | refine Below.alloc ?_ (by first | (simp; done) | (simp; omega) | omega) _ | refine below_alloc ?_ _ | refine below_step ?_ (by assumption)))).mono ?_
      rintro e w1 ⟨rfl, hb⟩
      have hB_w1 : Below w.heap.size w w1 := (by repeat (first | exact Below.refl _ _ | assumption | refine Below.setCell ?_ (by first | (simp; done) | (simp; omega) | omega) _ | refine Below.drew ?_ | refine below_drewN ?_ _ | refine Below.alloc ?_ (by first | (simp; done) | (simp; omega) | omega) _ | refine below_alloc ?_ _ | refine below_step ?_ (by assumption))); have hz_w1 := hB_w1.size; clear hb
      go_wp2
      go_ret2
      exact ⟨rfl, (by repeat (first | exact Below.refl _ _ | assumption | refine Below.setCell ?_ (by first | (simp; done) | (simp; omega) | omega) _ | refine Below.drew ?_ | refine below_drewN ?_ _ | refine Below.alloc ?_ (by first | (simp; done) | (simp; omega) | omega) _ | refine below_alloc ?_ _ | refine below_step ?_ (by assumption)))⟩
    · rw [hjb] at c1 hE
      by_cases hl0 : len = 0
      · have : l = [] := List.eq_nil_of_length_eq_zero (by omega)
        rw [this] at hE
        rw [if_neg (by decide)] at hE
        rw [← this] at hE
        rw [hE, if_neg (by decide)] at hV
        rw [hE, hV]
        subst hl0
        have C1 := Lib.hid c1
        clear c1 hx hE hV h0 hv hl hjb this
        go_enter Try.func18, Try.ntmps18
        go_wp2_with fail
        refine (C1.out _ (by repeat (first | exact Below.refl _ _ | assumption | refine Below.setCell ?_ (by first | (simp; done) | (simp; omega) | omega) _ | refine Below.drew ?_ | refine below_drewN ?_ _ | refine Below.alloc ?_ (by first | (simp; done) | (simp; omega) | omega) _ | refine below_alloc ?_ _ | refine below_step ?_ (by assumption)))).mono ?_
        rintro e w1 ⟨rfl, hb⟩
        have hB_w1 : Below w.heap.size w w1 := (by repeat (first | exact Below.refl _ _ | assumption | refine Below.setCell ?_ (by first | (simp; done) | (simp; omega) | omega) _ | refine Below.drew ?_ | refine below_drewN ?_ _ | refine Below.alloc ?_ (by first | (simp; done) | (simp; omega) | omega) _ | refine below_alloc ?_ _ | refine below_step ?_ (by assumption))); have hz_w1 := hB_w1.size; clear hb
        go_wp2
        go_ret2
        exact ⟨rfl, (by repeat (first | exact Below.refl _ _ | assumption | refine Below.setCell ?_ (by first | (simp; done) | (simp; omega) | omega) _ | refine Below.drew ?_ | refine below_drewN ?_ _ | refine Below.alloc ?_ (by first | (simp; done) | (simp; omega) | omega) _ | refine below_alloc ?_ _ | refine below_step ?_ (by assumption)))⟩
      · have hne : l.isEmpty = false := by
          cases l with
          | nil => exact absurd hll.symm hl0
          | cons x l => rfl
        rw [hne, if_pos (by decide)] at hE
        rw [hE, if_pos rfl, hll] at hV
        rw [hE, hV]
        have c2 := fun i W (hi : i < len) (h : Below w.heap.size w W) => without_any A len cap l i W hi (by omega) ((hx.below h).more h.size)
        have c3 := fun A1 cap1 W => whole_any A1 (len - 1) cap1 W (by omega)
        have hpw : 1 ≤ 2 ^ (len - 1) ∧ 2 ^ (len - 1) ≤ 1024 := ⟨Nat.one_le_two_pow, Nat.pow_le_pow_right (by decide) (show len - 1 ≤ 10 by omega)⟩
        have c4 := fun i A1 cap1 W h => joined_any A1 (len - 1) cap1 (l.eraseIdx i) (2 ^ (len - 1) - 1) W (by omega) (by omega) h (wkOk hl i)
        have c5 := fun i A1 cap1 W h => resistance_any A1 (len - 1) cap1 (l.eraseIdx i) a b W (by omega) ha hb (wkOk hl i) h
        have hl10 : l.length ≤ 10 := by omega
        have hRb := fun k => wkR_bd (b := b) hl hl10 ha k
        have hSb := fun k => wkS_bd (b := b) hl hl10 ha k
        have hSn := fun k => wkS_succ l a b k
        have hRR : ∀ i, wkR l a b i = if jnB (l.eraseIdx i) a b then (resN (l.eraseIdx i) a b, resD (l.eraseIdx i) a b) else (1000000000000000000, 1) := fun i => rfl
        have hEL : ∀ i, i < len → (l.eraseIdx i).length = len - 1 := fun i hi => by rw [erase_len (by omega), hll]
        have C1 := Lib.hid c1
        have C2 := Lib.hid c2
        have C3 := Lib.hid c3
        have C4 := Lib.hid c4
        have C5 := Lib.hid c5
        have HRB := Lib.hid hRb
        have HSB := Lib.hid hSb
        have HSN := Lib.hid hSn
        have HRR := Lib.hid hRR
        have HEL := Lib.hid hEL
        have HX := Lib.hid hx
        clear c1 c2 c3 c4 c5 hRb hSb hSn hRR hEL hx hE hV h0 hv hl hjb hne hl10
        have hlz : ((len : Int) == 0) = false := by simp; omega
        obtain ⟨ha0, ha1⟩ := ha
        obtain ⟨hb0, hb1⟩ := hb
        go_enter Try.func18, Try.ntmps18
        go_wp2_with fail
        refine (C1.out _ (by repeat (first | exact Below.refl _ _ | assumption | refine Below.setCell ?_ (by first | (simp; done) | (simp; omega) | omega) _ | refine Below.drew ?_ | refine below_drewN ?_ _ | refine Below.alloc ?_ (by first | (simp; done) | (simp; omega) | omega) _ | refine below_alloc ?_ _ | refine below_step ?_ (by assumption)))).mono ?_
        rintro e w1 ⟨rfl, hb⟩
        have hB_w1 : Below w.heap.size w w1 := (by repeat (first | exact Below.refl _ _ | assumption | refine Below.setCell ?_ (by first | (simp; done) | (simp; omega) | omega) _ | refine Below.drew ?_ | refine below_drewN ?_ _ | refine Below.alloc ?_ (by first | (simp; done) | (simp; omega) | omega) _ | refine below_alloc ?_ _ | refine below_step ?_ (by assumption))); have hz_w1 := hB_w1.size; clear hb
        have HB1 := Lib.hid hB_w1
        go_wp2
        go_loopw [42, 12] (fun i v W => WkI w1 l a b w1.heap.size len i v W) (fun i _ _ => len - (intOf i).toNat)
        case atStart => exact WkI.mk 0 (Nat.zero_le _) rfl rfl (CA.new w1 [.int .i64 (-1), .int .i64 1] _) ((Below.refl _ _).alloc (Nat.le_refl _) _)
        case round =>
          obtain ⟨k, hk, rfl, rfl, hCA, hb⟩ := hrel
          have hBw : Below w.heap.size w wr := HB1.out.trans (hb.mono hz_w1)
          have hsb := hb.size
          by_cases hlt : k < len
          · have hk1 : (k : Int) < len := by omega
            have c6 := C2.out k wr hlt hBw
            have hel := HEL.out k hlt
            rw [hel] at c6
            have hfu : (jk (l.eraseIdx k) (2 ^ (len - 1) - 1) (len - 1)).1 = full (l.eraseIdx k) R0 := by rw [← hel]; exact jk_full
            have hR : (full (l.eraseIdx k) R0).length = 6 := full_len _ R0
            have c7 := C4.out k
            have c8 := C5.out k
            have hrr := HRR.out k
            have hsn := HSN.out k
            have hrb := HRB.out k
            have hsb2 := HSB.out k
            have hJ : jnB (l.eraseIdx k) a b = (at6 (full (l.eraseIdx k) R0) a == at6 (full (l.eraseIdx k) R0) b) := rfl
            generalize hW : wkS l a b k = S at *
            generalize wkR l a b k = Rk at *
            generalize jnB (l.eraseIdx k) a b = J at *
            generalize jk (l.eraseIdx k) (2 ^ (len - 1) - 1) (len - 1) = q at *
            obtain ⟨R, qt⟩ := q
            dsimp only at *
            subst hfu
            generalize full (l.eraseIdx k) R0 = R at *
            unfold arrV at c7
            have C6 := Lib.hid c6
            have C7 := Lib.hid c7
            have C8 := Lib.hid c8
            have HR := Lib.hid hR
            have HCA := Lib.hid hCA
            have HSN2 := Lib.hid hsn
            clear c6 c7 c8 hR hW hel hCA hsn
            go_wp2_with fail
            refine C6.out.mono ?_
            rintro e w2 ⟨⟨v2, rfl, ho⟩, hb2⟩
            obtain ⟨A1, cap1, rfl, hq1, hq2, hP, -⟩ := own_tapes ho
            have HP := Lib.hid hP
            have HCA2 := Lib.hid (HCA.out.later hb2)
            have hB2 : Below w.heap.size w w2 := hBw.trans (hb2.mono hBw.size)
            have hB12 : Below w1.heap.size w1 w2 := hb.trans (hb2.mono hsb)
            have hb2s : w1.heap.size < w2.heap.size := Nat.lt_of_lt_of_le HCA.out.1 hb2.size
            clear ho hP hb2 HCA
            go_wp2_with fail
            refine (C3.out _ _ _).mono ?_
            rintro e w3 ⟨rfl, hw3⟩
            have HF3 : CA w3 w2.heap.size (ca2 (1000000000000000000, 1)) := by rw [← hw3]; exact CA.new w2 [.int .i64 1000000000000000000, .int .i64 1] _
            have HM3 : CA w3 w1.heap.size (ca2 S.2) := by rw [← hw3]; exact HCA2.out.alloc _
            have HP3 := Lib.hid (show Rows 3 int3 (0,0,0) w3 w3.heap.size A1 (len - 1) (l.eraseIdx k) by rw [← hw3]; exact (HP.out.below ((Below.refl _ w2).alloc (Nat.le_refl _) _)).more (by simp))
            have hB3 : Below w1.heap.size w1 w3 := by rw [← hw3]; exact hB12.alloc hB12.size _
            clear hw3 HCA2 HP
            have hFM : ¬ w2.heap.size = w1.heap.size := by have := HM3.1; have := HF3.1; have := hB12.size; have := hb2s; omega
            have hFl : w1.heap.size < w2.heap.size := hb2s
            have hMF : ¬ w1.heap.size = w2.heap.size := fun h => hFM h.symm
            generalize w2.heap.size = F at *
            go_wp2_with fail
            refine (C7.out _ _ _ HP3.out).mono ?_
            rintro e w4 ⟨rfl, hb4⟩
            have HF4 := HF3.later hb4
            have HM4 := HM3.later hb4
            have HP4 := Lib.hid ((HP3.out.below hb4).more hb4.size)
            have hB4 : Below w1.heap.size w1 w4 := hB3.trans (hb4.mono hB3.size)
            clear HF3 HM3 HP3 hb4
            go_wp2_with fail
            have hA := arr_blk w4 HR.out 70
            have hga := (hA.at_ a.toNat (by omega)).1
            have hgb := (hA.at_ b.toNat (by omega)).1
            rw [num_at6'] at hga hgb
            have HF5 := HF4.alloc (.cells #[.int .i64 (num R 0), .int .i64 (num R 1), .int .i64 (num R 2), .int .i64 (num R 3), .int .i64 (num R 4), .int .i64 (num R 5)] 70)
            have HM5 := HM4.alloc (.cells #[.int .i64 (num R 0), .int .i64 (num R 1), .int .i64 (num R 2), .int .i64 (num R 3), .int .i64 (num R 4), .int .i64 (num R 5)] 70)
            have HP5 := (HP4.out.below ((Below.refl _ w4).alloc (Nat.le_refl _) (.cells #[.int .i64 (num R 0), .int .i64 (num R 1), .int .i64 (num R 2), .int .i64 (num R 3), .int .i64 (num R 4), .int .i64 (num R 5)] 70))).more (B' := (w4.alloc (.cells #[.int .i64 (num R 0), .int .i64 (num R 1), .int .i64 (num R 2), .int .i64 (num R 3), .int .i64 (num R 4), .int .i64 (num R 5)] 70)).heap.size) (by simp)
            have hB5 := hB4.alloc hB4.size (.cells #[.int .i64 (num R 0), .int .i64 (num R 1), .int .i64 (num R 2), .int .i64 (num R 3), .int .i64 (num R 4), .int .i64 (num R 5)] 70)
            have hgz : w4.heap.size < (w4.alloc (.cells #[.int .i64 (num R 0), .int .i64 (num R 1), .int .i64 (num R 2), .int .i64 (num R 3), .int .i64 (num R 4), .int .i64 (num R 5)] 70)).heap.size := by simp
            clear hA HF4 HM4 HP4 hB4
            generalize (w4.alloc (.cells #[.int .i64 (num R 0), .int .i64 (num R 1), .int .i64 (num R 2), .int .i64 (num R 3), .int .i64 (num R 4), .int .i64 (num R 5)] 70)) = w5 at *
            generalize w4.heap.size = G at *
            generalize at6 R a = x at *
            generalize at6 R b = y at *
            have HF5 := Lib.hid HF5
            have HM5 := Lib.hid HM5
            have HP5 := Lib.hid HP5
            have c9 := fun W => CompareT_any Rk.1 Rk.2 S.2.1 S.2.2 W (by omega) (by omega) (by omega) (by omega) (by omega) (by omega) (by omega) (by omega)
            (refine wp_region_later (by kernel_rfl) (by kernel_rfl) ?_; (repeat (go_big_quiet_step ((fail)))); refine wpQuiet_nil ?_)
            intro w6 hb6
            have HF6 := HF5.out.later hb6
            have HM6 := HM5.out.later hb6
            have HP6 := Lib.hid ((HP5.out.below hb6).more hb6.size)
            have hB6 : Below w1.heap.size w1 w6 := hB5.trans (hb6.mono hB5.size)
            clear HF5 HM5 HP5 hb6 hga hgb hB5
            by_cases hxy : x = y
            · have hxy' : (x == y) = true := by simpa using hxy
              rw [hxy'] at hJ
              rw [hJ, if_pos rfl] at hrr
              have hr1 : resN (l.eraseIdx k) a b = Rk.1 := by rw [hrr]
              have hr2 : resD (l.eraseIdx k) a b = Rk.2 := by rw [hrr]
              have c8 := C8.out
              rw [hr1, hr2] at c8
              have C8' := Lib.hid c8
              have HF6' := Lib.hid HF6
              have HM6' := Lib.hid HM6
              obtain ⟨g0, g0'⟩ := HF6.2 0 _ rfl
              obtain ⟨g1, g1'⟩ := HF6.2 1 _ rfl
              clear hr1 hr2 hrr hJ c8 C8 HF6 HM6
              go_wp2_with fail
              refine (C8'.out _ _ _ HP6.out).mono ?_
              rintro e w7 ⟨rfl, hb7⟩
              have HF7 := HF6'.out.later hb7
              have HM7 := HM6'.out.later hb7
              have hB7 : Below w1.heap.size w1 w7 := hB6.trans (hb7.mono hB6.size)
              clear hb7 g0 g0' g1 g1' HP6
              obtain ⟨g0, g0'⟩ := HF7.2 0 _ rfl
              obtain ⟨g1, g1'⟩ := HF7.2 1 _ rfl
              have HF7' := Lib.hid HF7
              have HM7' := Lib.hid HM7
              clear HF7 HM7
              go_upto_region 15 with fail
              have HF := Lib.hid (((HF7'.out.set (k := 0) (by simp [ca2]) (.int .i64 Rk.1)).set (k := 1) (by simp [ca2]) (.int .i64 Rk.2)).cast (cs' := ca2 Rk) rfl)
              have HM := Lib.hid ((HM7'.out.other (p := ⟨F, 0, none⟩) hFM (.int .i64 Rk.1)).other (p := ⟨F, 1, none⟩) hFM (.int .i64 Rk.2))
              have HBz := Lib.hid ((hB7.setCell (p := ⟨F, 0, none⟩) (Nat.le_of_lt hFl) (.int .i64 Rk.1)).setCell (p := ⟨F, 1, none⟩) (Nat.le_of_lt hFl) (.int .i64 Rk.2))
              clear g0 g0' g1 g1' HF7' HM7' hB7 HF6' HM6'
              generalize (w7.setCell ⟨F, 0, none⟩ (.int .i64 Rk.1)).setCell ⟨F, 1, none⟩ (.int .i64 Rk.2) = w8 at *
              generalize hCC : cmpR Rk.1 Rk.2 S.2.1 S.2.2 = C at *
              have C9 := Lib.hid c9
              clear hCC c9
              obtain ⟨f0, f0'⟩ := HF.out.2 0 _ rfl
              obtain ⟨f1, f1'⟩ := HF.out.2 1 _ rfl
              obtain ⟨m0, m0'⟩ := HM.out.2 0 _ rfl
              obtain ⟨m1, m1'⟩ := HM.out.2 1 _ rfl
              have zF := HF.out.1
              have zM := HM.out.1
              by_cases hC : 0 < C
              · have hS2 := HSN2.out
                rw [if_pos hC] at hS2
                have HS2 := Lib.hid hS2
                clear hS2 HSN2
                go_wp2_with fail
                refine (C9.out _).mono ?_
                rintro e w9 ⟨rfl, hb9⟩
                have HF9 := HF.out.later hb9
                have HM9 := HM.out.later hb9
                have HB9 : Below w1.heap.size w1 w9 := HBz.out.trans (hb9.mono HBz.out.size)
                clear f0 f0' f1 f1' m0 m0' m1 m1' hb9 zF zM HF HM HBz
                obtain ⟨f0, f0'⟩ := HF9.2 0 _ rfl
                obtain ⟨f1, f1'⟩ := HF9.2 1 _ rfl
                obtain ⟨m0, m0'⟩ := HM9.2 0 _ rfl
                obtain ⟨m1, m1'⟩ := HM9.2 1 _ rfl
                have zF := HF9.1
                have zM := HM9.1
                have HM10 := Lib.hid HM9
                clear HF9 HM9
                go_wp2_with fail
                (refine wp_region_tail 3 (by kernel_rfl) (by kernel_rfl) ?_; simp only [List.take_succ_cons, List.take_zero, List.drop_succ_cons, List.drop_zero]; (repeat (go_big_quiet_step (fail))); refine wpQuiet_nil ?_)
                go_wp2
                go_roundw
                case rel => exact WkI.mk (k + 1) (by omega) (by go_num) (by rw [HS2.out]) (by rw [HS2.out]; exact (((HM10.out.set (k := 0) (by simp [ca2]) (.int .i64 Rk.1)).set (k := 1) (by simp [ca2]) (.int .i64 Rk.2)).drew).cast rfl) (((HB9.setCell (p := ⟨w1.heap.size, 0, none⟩) (Nat.le_refl _) _).setCell (p := ⟨w1.heap.size, 1, none⟩) (Nat.le_refl _) _).drew)
                case measure => simp [intOf]; omega
              · have hS2 := HSN2.out
                rw [if_neg hC] at hS2
                have HS2 := Lib.hid hS2
                clear hS2 HSN2
                go_wp2_with fail
                refine (C9.out _).mono ?_
                rintro e w9 ⟨rfl, hb9⟩
                have HM9 := Lib.hid (HM.out.later hb9)
                have HB9 : Below w1.heap.size w1 w9 := HBz.out.trans (hb9.mono HBz.out.size)
                clear f0 f0' f1 f1' m0 m0' m1 m1' hb9 zF zM HF HM HBz
                go_wp2
                go_roundw
                case rel => exact WkI.mk (k + 1) (by omega) (by go_num) (by rw [HS2.out]) (by rw [HS2.out]; exact HM9.out) HB9
                case measure => simp [intOf]; omega
            · have hxy' : (x == y) = false := by simpa using hxy
              rw [hxy'] at hJ
              rw [hJ, if_neg (by decide)] at hrr
              have hr1 : (1000000000000000000 : Int) = Rk.1 := by rw [hrr]
              have hr2 : (1 : Int) = Rk.2 := by rw [hrr]
              have HF := Lib.hid (show CA w6 F (ca2 Rk) by rw [hrr]; exact HF6)
              have HM := Lib.hid HM6
              have HBz := Lib.hid hB6
              clear hr1 hr2 hrr hJ C8 HF6 HM6 HP6 hB6
              generalize hCC : cmpR Rk.1 Rk.2 S.2.1 S.2.2 = C at *
              have C9 := Lib.hid c9
              clear hCC c9
              obtain ⟨f0, f0'⟩ := HF.out.2 0 _ rfl
              obtain ⟨f1, f1'⟩ := HF.out.2 1 _ rfl
              obtain ⟨m0, m0'⟩ := HM.out.2 0 _ rfl
              obtain ⟨m1, m1'⟩ := HM.out.2 1 _ rfl
              have zF := HF.out.1
              have zM := HM.out.1
              by_cases hC : 0 < C
              · have hS2 := HSN2.out
                rw [if_pos hC] at hS2
                have HS2 := Lib.hid hS2
                clear hS2 HSN2
                go_wp2_with fail
                refine (C9.out _).mono ?_
                rintro e w9 ⟨rfl, hb9⟩
                have HF9 := HF.out.later hb9
                have HM9 := HM.out.later hb9
                have HB9 : Below w1.heap.size w1 w9 := HBz.out.trans (hb9.mono HBz.out.size)
                clear f0 f0' f1 f1' m0 m0' m1 m1' hb9 zF zM HF HM HBz
                obtain ⟨f0, f0'⟩ := HF9.2 0 _ rfl
                obtain ⟨f1, f1'⟩ := HF9.2 1 _ rfl
                obtain ⟨m0, m0'⟩ := HM9.2 0 _ rfl
                obtain ⟨m1, m1'⟩ := HM9.2 1 _ rfl
                have zF := HF9.1
                have zM := HM9.1
                have HM10 := Lib.hid HM9
                clear HF9 HM9
                go_wp2_with fail
                (refine wp_region_tail 3 (by kernel_rfl) (by kernel_rfl) ?_; simp only [List.take_succ_cons, List.take_zero, List.drop_succ_cons, List.drop_zero]; (repeat (go_big_quiet_step (fail))); refine wpQuiet_nil ?_)
                go_wp2
                go_roundw
                case rel => exact WkI.mk (k + 1) (by omega) (by go_num) (by rw [HS2.out]) (by rw [HS2.out]; exact (((HM10.out.set (k := 0) (by simp [ca2]) (.int .i64 Rk.1)).set (k := 1) (by simp [ca2]) (.int .i64 Rk.2)).drew).cast rfl) (((HB9.setCell (p := ⟨w1.heap.size, 0, none⟩) (Nat.le_refl _) _).setCell (p := ⟨w1.heap.size, 1, none⟩) (Nat.le_refl _) _).drew)
                case measure => simp [intOf]; omega
              · have hS2 := HSN2.out
                rw [if_neg hC] at hS2
                have HS2 := Lib.hid hS2
                clear hS2 HSN2
                go_wp2_with fail
                refine (C9.out _).mono ?_
                rintro e w9 ⟨rfl, hb9⟩
                have HM9 := Lib.hid (HM.out.later hb9)
                have HB9 : Below w1.heap.size w1 w9 := HBz.out.trans (hb9.mono HBz.out.size)
                clear f0 f0' f1 f1' m0 m0' m1 m1' hb9 zF zM HF HM HBz
                go_wp2
                go_roundw
                case rel => exact WkI.mk (k + 1) (by omega) (by go_num) (by rw [HS2.out]) (by rw [HS2.out]; exact HM9.out) HB9
                case measure => simp [intOf]; omega
          · have hkn : k = len := by omega
            subst hkn
            have hk1 : ¬ (k : Int) < k := by omega
            have HB := Lib.hid hBw
            clear hCA
            go_wp2
            go_ret2
            exact ⟨rfl, HB.out⟩
  · have h0' : (askE n l [a, b] == 0) = false := by simpa using h0
    have h0'' : (askE n l [a, b] != 0) = true := by simpa using h0
    rw [if_neg h0] at hE
    rw [hE, if_neg h0] at hV
    rw [hE, hV]
    rw [decide_eq_false h0, Bool.false_and] at c1
    generalize askE n l [a, b] = E at *
    have C1 := Lib.hid c1
    clear c1 hx hE hV h0
    go_enter Try.func18, Try.ntmps18
    go_wp2_with fail
    refine (C1.out _ (by repeat (first | exact Below.refl _ _ | assumption | refine Below.setCell ?_ (by first | (simp; done) | (simp; omega) | omega) _ | refine Below.drew ?_ | refine below_drewN ?_ _ | refine Below.alloc ?_ (by first | (simp; done) | (simp; omega) | omega) _ | refine below_alloc ?_ _ | refine below_step ?_ (by assumption)))).mono ?_
    rintro e w1 ⟨rfl, hb⟩
    have hB_w1 : Below w.heap.size w w1 := (by repeat (first | exact Below.refl _ _ | assumption | refine Below.setCell ?_ (by first | (simp; done) | (simp; omega) | omega) _ | refine Below.drew ?_ | refine below_drewN ?_ _ | refine Below.alloc ?_ (by first | (simp; done) | (simp; omega) | omega) _ | refine below_alloc ?_ _ | refine below_step ?_ (by assumption))); have hz_w1 := hB_w1.size; clear hb
    go_wp2
    go_ret2
    exact ⟨rfl, (by repeat (first | exact Below.refl _ _ | assumption | refine Below.setCell ?_ (by first | (simp; done) | (simp; omega) | omega) _ | refine Below.drew ?_ | refine below_drewN ?_ _ | refine Below.alloc ?_ (by first | (simp; done) | (simp; omega) | omega) _ | refine below_alloc ?_ _ | refine below_step ?_ (by assumption)))⟩
end Go.Proofs.Ytpfhfmnlojigpaa

namespace Go.Proofs.Ytpfhfmnlojigpaa
open Go.RowKit
attribute [local go_sem] Later.cell Same.cell

theorem wvNet_iff {n : Int} {l : List Tp} : vNet n l = true ↔ (1 ≤ n ∧ n ≤ 6) ∧ l.length ≤ 10 ∧ ∀ t, t ∈ l → 0 ≤ t.1 ∧ t.1 < t.2.1 ∧ t.2.1 < n ∧ 1 ≤ t.2.2 ∧ t.2.2 ≤ 60 := by
  simp [vNet, vT, withinB, List.all_eq_true, and_assoc]
theorem wvNet_erase {n : Int} {l : List Tp} (h : vNet n l = true) (i : Nat) : vNet n (l.eraseIdx i) = true := by
  obtain ⟨h1, h2, h3⟩ := wvNet_iff.1 h
  exact wvNet_iff.2 ⟨h1, Nat.le_trans (List.length_eraseIdx_le ..) h2, fun t ht => h3 t (List.mem_of_mem_eraseIdx ht)⟩
def rkS (l : List Tp) (a b : Int) (k : Nat) : Nat × Int × Int := if k = 0 then (0, 0, 0) else wkS l a b k
def RkI (w1 : World) (l : List Tp) (a b : Int) (M n : Nat) (i v : Value) (W : World) : Prop := ∃ k : Nat, k ≤ n ∧ i = .int .i64 k ∧ v = .int .i64 ((rkS l a b k).1 : Int) ∧ CA W M (ca2 (rkS l a b k).2) ∧ Hid (∀ j, j < k → jnB (l.eraseIdx j) a b = true) ∧ Below w1.heap.size w1 W
theorem RkI.mk {w1 : World} {l : List Tp} {a b : Int} {M n : Nat} {i v : Value} {W : World} (k : Nat) (h1 : k ≤ n) (h2 : i = .int .i64 k) (h3 : v = .int .i64 ((rkS l a b k).1 : Int)) (h4 : CA W M (ca2 (rkS l a b k).2)) (h6 : Hid (∀ j, j < k → jnB (l.eraseIdx j) a b = true)) (h5 : Below w1.heap.size w1 W) : RkI w1 l a b M n i v W := ⟨k, h1, h2, h3, h4, h6, h5⟩
set_option maxRecDepth 20000 in
set_option maxHeartbeats 8000000 in
theorem rWeakest_any (n : Int) (A : Option Addr) (len cap : Nat) (l : List Tp) (a b : Int) (w : World) (hcap : len ≤ cap) (hm : len ≤ 9223372036854775807) (hx : Rows 3 int3 (0,0,0) w w.heap.size A len l) :
    Calls Try.prog 19 #[.int .i64 n, .slice A len cap, .int .i64 a, .int .i64 b] w fun e w' => e = .returned (.tuple #[.int .i64 (wkV n l a b), .int .i64 (wkE n l a b)]) ∧ Below w.heap.size w w' := by
  have c1 := fun W (h : Below w.heap.size w W) => pairE_any n A len cap l a b W hm ((hx.below h).more h.size)
  have hE : wkE n l a b = if askE n l [a, b] = 0 then (if jnB l a b && !(l.isEmpty) then 0 else 8) else askE n l [a, b] := rfl
  have hV : wkV n l a b = if wkE n l a b = 0 then ((wkS l a b l.length).1 : Int) else 0 := rfl
  have hll := hx.1
  rcases ask_cases n l a b with ⟨h0, hv, ha, hb⟩ | h0
  · rw [h0] at c1
    rw [h0, if_pos rfl] at hE
    obtain ⟨hn, hlen, hl⟩ := vNet_spec hv
    have hin := allW2 h0
    rw [hll] at hlen
    obtain ⟨N, rfl⟩ : ∃ N : Nat, n = N := ⟨n.toNat, by omega⟩
    by_cases hl0 : len = 0
    · have : l = [] := List.eq_nil_of_length_eq_zero (by omega)
      rw [this, if_neg (by simp)] at hE
      rw [← this] at hE
      rw [hE, if_neg (by decide)] at hV
      rw [hE, hV]
      subst hl0
      have C1 := Lib.hid c1
      clear c1 hx hE hV h0 hv hl this
      go_enter Try.func19, Try.ntmps19
      go_wp2_with fail
      refine (C1.out _ (by repeat (first | exact Below.refl _ _ | assumption | refine Below.setCell ?_ (by first | (simp; done) | (simp; omega) | omega) _ | refine Below.drew ?_ | refine below_drewN ?_ _ | refine Below.alloc ?_ (by first | (simp; done) | (simp; omega) | omega) _ | refine below_alloc ?_ _ | refine below_step ?_ (by assumption)))).mono ?_
      rintro e w1 ⟨rfl, hb⟩
      have hB_w1 : Below w.heap.size w w1 := (by repeat (first | exact Below.refl _ _ | assumption | refine Below.setCell ?_ (by first | (simp; done) | (simp; omega) | omega) _ | refine Below.drew ?_ | refine below_drewN ?_ _ | refine Below.alloc ?_ (by first | (simp; done) | (simp; omega) | omega) _ | refine below_alloc ?_ _ | refine below_step ?_ (by assumption))); have hz_w1 := hB_w1.size; clear hb
      go_wp2
      go_ret2
      exact ⟨rfl, (by repeat (first | exact Below.refl _ _ | assumption | refine Below.setCell ?_ (by first | (simp; done) | (simp; omega) | omega) _ | refine Below.drew ?_ | refine below_drewN ?_ _ | refine Below.alloc ?_ (by first | (simp; done) | (simp; omega) | omega) _ | refine below_alloc ?_ _ | refine below_step ?_ (by assumption)))⟩
    · have hne : l.isEmpty = false := by
        cases l with
        | nil => exact absurd hll.symm hl0
        | cons x l => rfl
      have hlz : ((len : Int) == 0) = false := by simp; omega
      rw [hne] at hE
      have hinn : inn N l := by have := vNet_inn hv; simpa using this
      have hpj := part_jn hv ⟨hin.1, hin.2.1⟩ hin.2.2
      rw [Int.toNat_natCast] at hpj
      have hJ : jnB l a b = sB (partL N l a) b := by rw [hpj]; unfold jnB; rw [Bool.beq_comm]
      have c2 := fun W (h : Below w.heap.size w W) => rpart_any N A len cap l a W (by omega) hlen (by omega) hinn ((hx.below h).more h.size)
      obtain ⟨hb0, hb1⟩ := hin.2.2
      cases hjb : jnB l a b
      · rw [hjb] at hE hJ
        rw [if_neg (by decide)] at hE
        rw [hE, if_neg (by decide)] at hV
        rw [hE, hV]
        have C1 := Lib.hid c1
        have C2 := Lib.hid c2
        have HS := Lib.hid hJ.symm
        clear c1 c2 hx hE hV h0 hv hl hJ hjb hpj hinn hne
        go_enter Try.func19, Try.ntmps19
        go_wp2_with fail
        refine (C1.out _ (by repeat (first | exact Below.refl _ _ | assumption | refine Below.setCell ?_ (by first | (simp; done) | (simp; omega) | omega) _ | refine Below.drew ?_ | refine below_drewN ?_ _ | refine Below.alloc ?_ (by first | (simp; done) | (simp; omega) | omega) _ | refine below_alloc ?_ _ | refine below_step ?_ (by assumption)))).mono ?_
        rintro e w1 ⟨rfl, hb⟩
        have hB_w1 : Below w.heap.size w w1 := (by repeat (first | exact Below.refl _ _ | assumption | refine Below.setCell ?_ (by first | (simp; done) | (simp; omega) | omega) _ | refine Below.drew ?_ | refine below_drewN ?_ _ | refine Below.alloc ?_ (by first | (simp; done) | (simp; omega) | omega) _ | refine below_alloc ?_ _ | refine below_step ?_ (by assumption))); have hz_w1 := hB_w1.size; clear hb
        go_wp2_with fail
        refine (C2.out _ (by repeat (first | exact Below.refl _ _ | assumption | refine Below.setCell ?_ (by first | (simp; done) | (simp; omega) | omega) _ | refine Below.drew ?_ | refine below_drewN ?_ _ | refine Below.alloc ?_ (by first | (simp; done) | (simp; omega) | omega) _ | refine below_alloc ?_ _ | refine below_step ?_ (by assumption)))).mono ?_
        rintro e w2 ⟨⟨v, rfl, ho⟩, hb⟩
        obtain ⟨g, cp, rfl, -, -, -, -, hfr, hce⟩ := own_bools ho (by omega)
        have hc := hce b hb0 hb1
        rw [HS.out] at hc
        clear hce hfr ho
        have hB_w2 : Below w.heap.size w w2 := (by repeat (first | exact Below.refl _ _ | assumption | refine Below.setCell ?_ (by first | (simp; done) | (simp; omega) | omega) _ | refine Below.drew ?_ | refine below_drewN ?_ _ | refine Below.alloc ?_ (by first | (simp; done) | (simp; omega) | omega) _ | refine below_alloc ?_ _ | refine below_step ?_ (by assumption))); have hz_w2 := hB_w2.size; clear hb hB_w1
        go_wp2
        go_ret2
        exact ⟨rfl, (by repeat (first | exact Below.refl _ _ | assumption | refine Below.setCell ?_ (by first | (simp; done) | (simp; omega) | omega) _ | refine Below.drew ?_ | refine below_drewN ?_ _ | refine Below.alloc ?_ (by first | (simp; done) | (simp; omega) | omega) _ | refine below_alloc ?_ _ | refine below_step ?_ (by assumption)))⟩
      · rw [hjb] at hE hJ
        rw [if_pos (by decide)] at hE
        rw [hE, if_pos rfl, hll] at hV
        rw [hE, hV]
        have c3 := fun i W (hi : i < len) (h : Below w.heap.size w W) => rwithout_any A len cap l i W hi hcap (by omega) ((hx.below h).more h.size)
        have c4 := fun i A1 cap1 W h => rpart_any N A1 (len - 1) cap1 (l.eraseIdx i) a W (by omega) (by omega) (by omega) (by have := vNet_inn (wvNet_erase hv i); simpa using this) h
        have c5 := fun i A1 cap1 W h => rresist_any N A1 (len - 1) cap1 (l.eraseIdx i) a b W (wvNet_erase hv i) ⟨hin.1, hin.2.1⟩ hb h
        have hl10 : l.length ≤ 10 := by omega
        have hRb := fun k => wkR_bd (b := b) hl hl10 ha k
        have hSb := fun k => wkS_bd (b := b) hl hl10 ha k
        have hSn := fun k => wkS_succ l a b k
        have hS1 := wkS_one (b := b) hl hl10 ha
        have hSt := fun i (h1 : i < len) h2 h3 => wk_stop (b := b) hl hl10 ha h1 h2 (i := i) h3
        have hRR : ∀ i, wkR l a b i = if jnB (l.eraseIdx i) a b then (resN (l.eraseIdx i) a b, resD (l.eraseIdx i) a b) else (1000000000000000000, 1) := fun i => rfl
        have hEL : ∀ i, i < len → (l.eraseIdx i).length = len - 1 := fun i hi => by rw [erase_len (by omega), hll]
        have hPJ : ∀ i, jnB (l.eraseIdx i) a b = sB (partL N (l.eraseIdx i) a) b := fun i => by
          have := part_jn (wvNet_erase hv i) ⟨hin.1, hin.2.1⟩ ⟨hb0, hb1⟩
          rw [Int.toNat_natCast] at this
          rw [this]; unfold jnB; rw [Bool.beq_comm]
        have C1 := Lib.hid c1
        have C2 := Lib.hid c2
        have C3 := Lib.hid c3
        have C4 := Lib.hid c4
        have C5 := Lib.hid c5
        have HRB := Lib.hid hRb
        have HSB := Lib.hid hSb
        have HSN := Lib.hid hSn
        have HS1 := Lib.hid hS1
        have HST := Lib.hid hSt
        have HRR := Lib.hid hRR
        have HEL := Lib.hid hEL
        have HPJ := Lib.hid hPJ
        have HX := Lib.hid hx
        have HS := Lib.hid hJ.symm
        clear c1 c2 c3 c4 c5 hRb hSb hSn hS1 hSt hRR hEL hPJ hx hE hV h0 hv hl hjb hne hl10 hJ hpj hinn
        go_enter Try.func19, Try.ntmps19
        go_wp2_with fail
        refine (C1.out _ (by repeat (first | exact Below.refl _ _ | assumption | refine Below.setCell ?_ (by first | (simp; done) | (simp; omega) | omega) _ | refine Below.drew ?_ | refine below_drewN ?_ _ | refine Below.alloc ?_ (by first | (simp; done) | (simp; omega) | omega) _ | refine below_alloc ?_ _ | refine below_step ?_ (by assumption)))).mono ?_
        rintro e w1 ⟨rfl, hb⟩
        have hB_w1 : Below w.heap.size w w1 := (by repeat (first | exact Below.refl _ _ | assumption | refine Below.setCell ?_ (by first | (simp; done) | (simp; omega) | omega) _ | refine Below.drew ?_ | refine below_drewN ?_ _ | refine Below.alloc ?_ (by first | (simp; done) | (simp; omega) | omega) _ | refine below_alloc ?_ _ | refine below_step ?_ (by assumption))); have hz_w1 := hB_w1.size; clear hb
        go_wp2_with fail
        refine (C2.out _ (by repeat (first | exact Below.refl _ _ | assumption | refine Below.setCell ?_ (by first | (simp; done) | (simp; omega) | omega) _ | refine Below.drew ?_ | refine below_drewN ?_ _ | refine Below.alloc ?_ (by first | (simp; done) | (simp; omega) | omega) _ | refine below_alloc ?_ _ | refine below_step ?_ (by assumption)))).mono ?_
        rintro e w2 ⟨⟨v, rfl, ho⟩, hb⟩
        obtain ⟨g, cp, rfl, -, -, -, -, hfr, hce⟩ := own_bools ho (by omega)
        have hc := hce b hb0 hb1
        rw [HS.out] at hc
        clear hce hfr ho
        have hB_w2 : Below w.heap.size w w2 := (by repeat (first | exact Below.refl _ _ | assumption | refine Below.setCell ?_ (by first | (simp; done) | (simp; omega) | omega) _ | refine Below.drew ?_ | refine below_drewN ?_ _ | refine Below.alloc ?_ (by first | (simp; done) | (simp; omega) | omega) _ | refine below_alloc ?_ _ | refine below_step ?_ (by assumption))); have hz_w2 := hB_w2.size; clear hb hB_w1
        have HB2 : Below w.heap.size w w2 := (by repeat (first | exact Below.refl _ _ | assumption | refine Below.setCell ?_ (by first | (simp; done) | (simp; omega) | omega) _ | refine Below.drew ?_ | refine below_drewN ?_ _ | refine Below.alloc ?_ (by first | (simp; done) | (simp; omega) | omega) _ | refine below_alloc ?_ _ | refine below_step ?_ (by assumption)))
        have hz2 := HB2.size
        have HB1 := Lib.hid HB2
        go_wp2
        clear hc HB2
        go_loopw [13, 11] (fun i v W => RkI w2 l a b w2.heap.size len i v W) (fun i _ _ => len - (intOf i).toNat)
        case atStart => exact RkI.mk 0 (Nat.zero_le _) rfl rfl (CA.new w2 [.int .i64 0, .int .i64 0] _) (Lib.hid fun j hj => by omega) ((Below.refl _ _).alloc (Nat.le_refl _) _)
        case round =>
          obtain ⟨k, hk, rfl, rfl, hCA, HT, hb⟩ := hrel
          have hBw : Below w.heap.size w wr := HB1.out.trans (hb.mono hz2)
          have hsb := hb.size
          by_cases hlt : k < len
          · have hk1 : (k : Int) < len := by omega
            have hk2 : ¬ len ≤ k := by omega
            have c6 := C3.out k wr hlt hBw
            rw [HEL.out k hlt] at c6
            have c7 := C4.out k
            have c8 := C5.out k
            have hrr := HRR.out k
            have hsn := HSN.out k
            have hrb := HRB.out k
            have hsb2 := HSB.out k
            have hst := HST.out k hlt HT.out
            have hJ := HPJ.out k
            have hrk : rkS l a b k = if k = 0 then (0, 0, 0) else wkS l a b k := rfl
            have hrk2 : rkS l a b (k + 1) = wkS l a b (k + 1) := if_neg (by omega)
            have HT2 : Hid (jnB (l.eraseIdx k) a b = true → ∀ j, j < k + 1 → jnB (l.eraseIdx j) a b = true) := Lib.hid (fun h j hj => by
              by_cases e : j = k
              · rw [e]; exact h
              · exact HT.out j (by omega))
            have HCA := Lib.hid hCA
            have C6 := Lib.hid c6
            have C7 := Lib.hid c7
            have C8 := Lib.hid c8
            clear c6 c7 c8 hCA HT
            have HRR2 := Lib.hid hrr
            have HSN2 := Lib.hid hsn
            have HST2 := Lib.hid hst
            have HRK := Lib.hid hrk
            have HRK2 := Lib.hid hrk2
            clear hrr hsn hst hrk hrk2
            go_wp2_with fail
            refine C6.out.mono ?_
            rintro e w3 ⟨⟨v2, rfl, ho⟩, hb2⟩
            obtain ⟨A1, cap1, rfl, hq1, hq2, hP, -⟩ := own_tapes ho
            have HP := Lib.hid hP
            have HCA2 := Lib.hid (HCA.out.later hb2)
            have hB2 : Below w.heap.size w w3 := hBw.trans (hb2.mono hBw.size)
            have hB12 : Below w2.heap.size w2 w3 := hb.trans (hb2.mono hsb)
            clear ho hP hb2 HCA
            go_wp2_with fail
            refine (C7.out _ _ _ HP.out).mono ?_
            rintro e w4 ⟨⟨v, rfl, ho⟩, hb4⟩
            obtain ⟨g4, cp4, rfl, -, -, hgl, -, hfr, hce⟩ := own_bools ho (by omega)
            have hc4 := hce b hb0 hb1
            rw [← hJ] at hc4
            have HP4 := Lib.hid ((HP.out.below hb4).more hb4.size)
            have HCA4 := Lib.hid (HCA2.out.later hb4)
            have hB4 : Below w2.heap.size w2 w4 := hB12.trans (hb4.mono hB12.size)
            have hB04 : Below w.heap.size w w4 := hB2.trans (hb4.mono hB2.size)
            clear hce hfr ho HCA2 HP hb4
            cases hj4 : jnB (l.eraseIdx k) a b
            · rw [hj4] at hc4 HST2
              have hfin : Hid ((k : Int) = ((wkS l a b len).1 : Int)) := Lib.hid (by rw [HST2.out rfl])
              have HB4 := Lib.hid hB04
              clear hJ hj4 HST2 hB4 HST
              go_wp2
              go_ret2
              refine ⟨?_, HB4.out⟩
              show Ending.returned (.tuple #[.int .i64 (k : Int), .int .i64 0]) = _
              rw [hfin.out]
            · rw [hj4] at hc4
              have hr := HRR2.out
              rw [hj4, if_pos rfl] at hr
              have hr1 : resN (l.eraseIdx k) a b = (wkR l a b k).1 := by rw [hr]
              have hr2 : resD (l.eraseIdx k) a b = (wkR l a b k).2 := by rw [hr]
              have c8 := C8.out
              rw [hr1, hr2] at c8
              have C8' := Lib.hid c8
              have HT3 := Lib.hid (HT2.out hj4)
              clear hJ hj4 HST2 HST hr hr1 hr2 c8 C8 HRR2 HT2
              go_wp2_with fail
              refine (C8'.out _ _ _ HP4.out).mono ?_
              rintro e w5 ⟨rfl, hb5⟩
              have HCA5 := HCA4.out.later hb5
              have hB5 : Below w2.heap.size w2 w5 := hB4.trans (hb5.mono hB4.size)
              have hMX : ¬ w2.heap.size = w5.heap.size := by have := HCA5.1; omega
              have hXM : ¬ w5.heap.size = w2.heap.size := fun h => hMX h.symm
              clear hb5 hB4 HCA4 hc4
              have HF5 := CA.new w5 [.int .i64 (wkR l a b k).1, .int .i64 (wkR l a b k).2] 28
              have HM5 := HCA5.alloc (.cells #[.int .i64 (wkR l a b k).1, .int .i64 (wkR l a b k).2] 28)
              have HB5 := hB5.alloc hB5.size (.cells #[.int .i64 (wkR l a b k).1, .int .i64 (wkR l a b k).2] 28)
              go_upto_region 15 with fail
              change CA (w5.alloc (.cells #[.int .i64 (wkR l a b k).1, .int .i64 (wkR l a b k).2] 28)) w5.heap.size [.int .i64 (wkR l a b k).1, .int .i64 (wkR l a b k).2] at HF5
              clear HCA5 hB5
              generalize w5.alloc (.cells #[.int .i64 (wkR l a b k).1, .int .i64 (wkR l a b k).2] 28) = w6 at *
              generalize w5.heap.size = F at *
              generalize hRk : wkR l a b k = Rk at *
              obtain ⟨R1, R2⟩ := Rk
              dsimp only at *
              have HF := Lib.hid HF5
              have HM := Lib.hid HM5
              have HBz := Lib.hid HB5
              clear HF5 HM5 HB5
              by_cases hk0 : k = 0
              · have hkz : ((k : Int) == 0) = true := by simp; omega
                have HS2 : Hid (rkS l a b (k + 1) = (k, R1, R2)) := Lib.hid (by rw [HRK2.out, hk0, HS1.out, ← hRk, hk0])
                have HF9 := HF.out
                have HM9 := HM.out
                have HB9 := HBz.out
                obtain ⟨f0, f0'⟩ := HF9.2 0 _ rfl
                obtain ⟨f1, f1'⟩ := HF9.2 1 _ rfl
                obtain ⟨m0, m0'⟩ := HM9.2 0 _ rfl
                obtain ⟨m1, m1'⟩ := HM9.2 1 _ rfl
                have zF := HF9.1
                have zM := HM9.1
                have HM10 := Lib.hid HM9
                clear HF9 HM9 HSN2 HRK HRK2 hRk hk0
                go_wp2_with fail
                (refine wp_region_tail 3 (by kernel_rfl) (by kernel_rfl) ?_; simp only [List.take_succ_cons, List.take_zero, List.drop_succ_cons, List.drop_zero]; (repeat (go_big_quiet_step (fail))); refine wpQuiet_nil ?_)
                go_wp2
                go_roundw
                case rel => exact RkI.mk (k + 1) (by omega) (by go_num) (by rw [HS2.out]) (by rw [HS2.out]; exact (((HM10.out.set (k := 0) (by simp [ca2]) (.int .i64 R1)).set (k := 1) (by simp [ca2]) (.int .i64 R2)).drew).cast rfl) HT3 (((HB9.setCell (p := ⟨w2.heap.size, 0, none⟩) (Nat.le_refl _) _).setCell (p := ⟨w2.heap.size, 1, none⟩) (Nat.le_refl _) _).drew)
                case measure => simp [intOf]; omega
              · have hkz : ((k : Int) == 0) = false := by simp; omega
                have hrks := HRK.out
                rw [if_neg hk0] at hrks
                have hsn := HSN2.out
                have hrk2 := HRK2.out
                rw [hsn, ← hrks] at hrk2
                rw [← hrks] at hsb2
                generalize rkS l a b k = S at *
                have c9 := fun W => Compare_any R1 R2 S.2.1 S.2.2 W (by omega) (by omega) (by omega) (by omega) (by omega) (by omega) (by omega) (by omega)
                generalize hCC : cmpR R1 R2 S.2.1 S.2.2 = C at *
                have C9 := Lib.hid c9
                have HSN3 := Lib.hid hrk2
                clear hCC c9 hrks hsn hrk2 HSN2 HRK HRK2 hRk hk0
                obtain ⟨f0, f0'⟩ := HF.out.2 0 _ rfl
                obtain ⟨f1, f1'⟩ := HF.out.2 1 _ rfl
                obtain ⟨m0, m0'⟩ := HM.out.2 0 _ rfl
                obtain ⟨m1, m1'⟩ := HM.out.2 1 _ rfl
                have zF := HF.out.1
                have zM := HM.out.1
                by_cases hC : 0 < C
                · have hS2 := HSN3.out
                  rw [if_pos hC] at hS2
                  have HS2 := Lib.hid hS2
                  clear hS2 HSN3
                  go_wp2_with fail
                  refine (C9.out _).mono ?_
                  rintro e w9 ⟨rfl, hb9⟩
                  have HF9 := HF.out.later hb9
                  have HM9 := HM.out.later hb9
                  have HB9 : Below w2.heap.size w2 w9 := HBz.out.trans (hb9.mono HBz.out.size)
                  clear f0 f0' f1 f1' m0 m0' m1 m1' hb9 zF zM HF HM HBz
                  obtain ⟨f0, f0'⟩ := HF9.2 0 _ rfl
                  obtain ⟨f1, f1'⟩ := HF9.2 1 _ rfl
                  obtain ⟨m0, m0'⟩ := HM9.2 0 _ rfl
                  obtain ⟨m1, m1'⟩ := HM9.2 1 _ rfl
                  have zF := HF9.1
                  have zM := HM9.1
                  have HM10 := Lib.hid HM9
                  clear HF9 HM9
                  go_wp2_with fail
                  (refine wp_region_tail 3 (by kernel_rfl) (by kernel_rfl) ?_; simp only [List.take_succ_cons, List.take_zero, List.drop_succ_cons, List.drop_zero]; (repeat (go_big_quiet_step (fail))); refine wpQuiet_nil ?_)
                  go_wp2
                  go_roundw
                  case rel => exact RkI.mk (k + 1) (by omega) (by go_num) (by rw [HS2.out]) (by rw [HS2.out]; exact (((HM10.out.set (k := 0) (by simp [ca2]) (.int .i64 R1)).set (k := 1) (by simp [ca2]) (.int .i64 R2)).drew).cast rfl) HT3 (((HB9.setCell (p := ⟨w2.heap.size, 0, none⟩) (Nat.le_refl _) _).setCell (p := ⟨w2.heap.size, 1, none⟩) (Nat.le_refl _) _).drew)
                  case measure => simp [intOf]; omega
                · have hS2 := HSN3.out
                  rw [if_neg hC] at hS2
                  have HS2 := Lib.hid hS2
                  clear hS2 HSN3
                  go_wp2_with fail
                  refine (C9.out _).mono ?_
                  rintro e w9 ⟨rfl, hb9⟩
                  have HM9 := Lib.hid (HM.out.later hb9)
                  have HB9 : Below w2.heap.size w2 w9 := HBz.out.trans (hb9.mono HBz.out.size)
                  clear f0 f0' f1 f1' m0 m0' m1 m1' hb9 zF zM HF HM HBz
                  go_wp2
                  go_roundw
                  case rel => exact RkI.mk (k + 1) (by omega) (by go_num) (by rw [HS2.out]) (by rw [HS2.out]; exact HM9.out) HT3 HB9
                  case measure => simp [intOf]; omega
          · have hkn : k = len := by omega
            subst hkn
            have hk1 : ¬ (k : Int) < k := by omega
            have hfin : Hid ((rkS l a b k).1 = (wkS l a b k).1) := Lib.hid (by unfold rkS; rw [if_neg hl0])
            have HB := Lib.hid hBw
            clear hCA HT HST
            go_wp2
            go_ret2
            refine ⟨?_, HB.out⟩
            show Ending.returned (.tuple #[.int .i64 ((rkS l a b k).1 : Int), .int .i64 0]) = _
            rw [hfin.out]
  · have h0' : (askE n l [a, b] == 0) = false := by simpa using h0
    have h0'' : (askE n l [a, b] != 0) = true := by simpa using h0
    rw [if_neg h0] at hE
    rw [hE, if_neg h0] at hV
    rw [hE, hV]
    generalize askE n l [a, b] = E at *
    have C1 := Lib.hid c1
    clear c1 hx hE hV h0
    go_enter Try.func19, Try.ntmps19
    go_wp2_with fail
    refine (C1.out _ (by repeat (first | exact Below.refl _ _ | assumption | refine Below.setCell ?_ (by first | (simp; done) | (simp; omega) | omega) _ | refine Below.drew ?_ | refine below_drewN ?_ _ | refine Below.alloc ?_ (by first | (simp; done) | (simp; omega) | omega) _ | refine below_alloc ?_ _ | refine below_step ?_ (by assumption)))).mono ?_
    rintro e w1 ⟨rfl, hb⟩
    have hB_w1 : Below w.heap.size w w1 := (by repeat (first | exact Below.refl _ _ | assumption | refine Below.setCell ?_ (by first | (simp; done) | (simp; omega) | omega) _ | refine Below.drew ?_ | refine below_drewN ?_ _ | refine Below.alloc ?_ (by first | (simp; done) | (simp; omega) | omega) _ | refine below_alloc ?_ _ | refine below_step ?_ (by assumption))); have hz_w1 := hB_w1.size; clear hb
    go_wp2
    go_ret2
    exact ⟨rfl, (by repeat (first | exact Below.refl _ _ | assumption | refine Below.setCell ?_ (by first | (simp; done) | (simp; omega) | omega) _ | refine Below.drew ?_ | refine below_drewN ?_ _ | refine Below.alloc ?_ (by first | (simp; done) | (simp; omega) | omega) _ | refine below_alloc ?_ _ | refine below_step ?_ (by assumption)))⟩
end Go.Proofs.Ytpfhfmnlojigpaa
