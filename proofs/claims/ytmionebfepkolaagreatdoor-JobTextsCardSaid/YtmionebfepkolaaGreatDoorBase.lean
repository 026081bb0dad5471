/- General lemmas: slices of pairs and of ints that read as lists, gcd, floor, bounds. No program is named here. -/
import Derived.WalkKit
import Derived.WalkSpells
import Derived.WalkLawsBesides
import Derived.Lib.Hide
namespace Go.Proofs.YtmionebfepkolaaGreatDoor
open Go.RowKit

theorem ret1 {v v' : Value} (h : v = v') : Ending.returned v = .returned v' := by rw [h]
theorem ret_bool {a b : Bool} (h : a = b) : Ending.returned (.bool a) = .returned (.bool b) := by rw [h]
theorem ret_int {k : IntKind} {a b : Int} (h : a = b) : Ending.returned (.int k a) = .returned (.int k b) := by rw [h]

def withinB (n lo hi : Int) : Bool := decide (lo ≤ n ∧ n ≤ hi)
theorem withinB_iff {n lo hi : Int} : withinB n lo hi = true ↔ lo ≤ n ∧ n ≤ hi := by simp [withinB]
theorem withinB_ff {n lo hi : Int} (h : n < lo) : false = withinB n lo hi := by simp [withinB]; omega
theorem withinB_tt {n lo hi : Int} (h : lo ≤ n) : decide (n ≤ hi) = withinB n lo hi := by simp [withinB]; omega

theorem bcell {W w1 : World} (hb : Below W.heap.size W w1) : (∀ b o, b < W.heap.size → w1.cell? ⟨b, o, none⟩ = W.cell? ⟨b, o, none⟩) ∧ (∀ b o, b < W.heap.size → w1.frozen? ⟨b, o, none⟩ = W.frozen? ⟨b, o, none⟩) :=
  ⟨fun b o h => hb.cell (p := ⟨b, o, none⟩) h, fun b o h => hb.frozen (p := ⟨b, o, none⟩) h⟩
theorem blt {B : Nat} {W w1 : World} (hb : Below B W w1) : ∀ b, b < W.heap.size → b < w1.heap.size := fun _ h => Nat.lt_of_lt_of_le h hb.size
theorem below_step {w W w1 : World} (h : Below w.heap.size w W) (hb : Below W.heap.size W w1) : Below w.heap.size w w1 := h.trans (hb.mono h.size)
theorem below_alloc {w W : World} (h : Below w.heap.size w W) (o : Obj) : Below w.heap.size w (W.alloc o) := h.alloc h.size o
theorem below_drewN {B : Nat} {a w : World} (h : Below B a w) (n : Nat) : Below B a (w.drewN n) := ⟨h.os, h.tape, h.output, h.size, h.block⟩

/-- len ints from (b, off) on, in a block below B. -/
def Ints (w : World) (B : Nat) (A : Option Addr) (len : Nat) (xs : List Int) : Prop :=
  xs.length = len ∧ (0 < len → ∃ b off, A = some ⟨b, off, none⟩ ∧ b < B ∧ ∀ k, k < len → w.cell? ⟨b, off + k, none⟩ = some (.int .i64 (xs[k]?.getD 0)))
theorem Ints.at_ {w : World} {B : Nat} {A : Option Addr} {len : Nat} {xs : List Int} (h : Ints w B A len xs) (k : Nat) (hk : k < len) :
    ∃ b off, A = some ⟨b, off, none⟩ ∧ b < B ∧ w.cell? ⟨b, off + k, none⟩ = some (.int .i64 (xs[k]?.getD 0)) := by
  obtain ⟨b, off, h1, h2, h3⟩ := h.2 (by omega)
  exact ⟨b, off, h1, h2, h3 k hk⟩
theorem Ints.below {w w' : World} {B : Nat} {A : Option Addr} {len : Nat} {xs : List Int} (h : Ints w B A len xs) (hb : Below B w w') : Ints w' B A len xs := by
  refine ⟨h.1, fun h0 => ?_⟩
  obtain ⟨b, off, h1, h2, h3⟩ := h.2 h0
  refine ⟨b, off, h1, h2, fun k hk => ?_⟩
  rw [hb.cell (p := ⟨b, _, none⟩) h2]
  exact h3 k hk
theorem Ints.more {w : World} {B B' : Nat} {A : Option Addr} {len : Nat} {xs : List Int} (h : Ints w B A len xs) (hb : B ≤ B') : Ints w B' A len xs :=
  ⟨h.1, fun h0 => by obtain ⟨b, off, h1, h2, h3⟩ := h.2 h0; exact ⟨b, off, h1, by omega, h3⟩⟩

/-- len pairs of ints from (b, off) on, in a block below B. -/
def Pairs (w : World) (B : Nat) (A : Option Addr) (len : Nat) (xs : List (Int × Int)) : Prop :=
  xs.length = len ∧ (0 < len → ∃ b off, A = some ⟨b, off, none⟩ ∧ b < B ∧ ∀ k, k < len → w.cell? ⟨b, off + k * 2, none⟩ = some (.int .i64 (xs[k]?.getD (0,0)).1) ∧ w.cell? ⟨b, off + k * 2 + 1, none⟩ = some (.int .i64 (xs[k]?.getD (0,0)).2))
theorem Pairs.at_ {w : World} {B : Nat} {A : Option Addr} {len : Nat} {xs : List (Int × Int)} (h : Pairs w B A len xs) (k : Nat) (hk : k < len) :
    ∃ b off, A = some ⟨b, off, none⟩ ∧ b < B ∧ w.cell? ⟨b, off + k * 2, none⟩ = some (.int .i64 (xs[k]?.getD (0,0)).1) ∧ w.cell? ⟨b, off + k * 2 + 1, none⟩ = some (.int .i64 (xs[k]?.getD (0,0)).2) := by
  obtain ⟨b, off, h1, h2, h3⟩ := h.2 (by omega)
  exact ⟨b, off, h1, h2, h3 k hk⟩
theorem Pairs.below {w w' : World} {B : Nat} {A : Option Addr} {len : Nat} {xs : List (Int × Int)} (h : Pairs w B A len xs) (hb : Below B w w') : Pairs w' B A len xs := by
  refine ⟨h.1, fun h0 => ?_⟩
  obtain ⟨b, off, h1, h2, h3⟩ := h.2 h0
  refine ⟨b, off, h1, h2, fun k hk => ?_⟩
  rw [hb.cell (p := ⟨b, _, none⟩) h2, hb.cell (p := ⟨b, _, none⟩) h2]
  exact h3 k hk
theorem Pairs.more {w : World} {B B' : Nat} {A : Option Addr} {len : Nat} {xs : List (Int × Int)} (h : Pairs w B A len xs) (hb : B ≤ B') : Pairs w B' A len xs :=
  ⟨h.1, fun h0 => by obtain ⟨b, off, h1, h2, h3⟩ := h.2 h0; exact ⟨b, off, h1, by omega, h3⟩⟩

theorem all_of_drop {α : Type} {xs : List α} {d : α} {k : Nat} {p : α → Bool} (h : k < xs.length) (hp : p (xs[k]?.getD d) = true) (ht : (xs.take k).all p = true) : (xs.take (k+1)).all p = true := by
  rw [List.take_succ_eq_append_getElem h, List.all_append, ht]
  simp [List.getElem?_eq_getElem h] at hp
  simp [hp]
theorem all_false_of {α : Type} {xs : List α} {d : α} {k : Nat} {p : α → Bool} (h : k < xs.length) (hp : p (xs[k]?.getD d) = false) : xs.all p = false := by
  rw [List.all_eq_false]
  refine ⟨xs[k], List.getElem_mem h, ?_⟩
  simpa [List.getElem?_eq_getElem h] using hp

/-! ### gcd, lowest terms -/
def lowN (n d : Int) : Int := n / (Int.gcd n d : Int)
def lowD (n d : Int) : Int := d / (Int.gcd n d : Int)
theorem gcd_step (a b : Int) : Int.gcd b (a.tmod b) = Int.gcd a b := by
  rw [Int.gcd_comm a b]
  have h : a.tmod b = a - b * a.tdiv b := by have := Int.tmod_add_mul_tdiv a b; omega
  rw [h]
  simp [Int.sub_eq_add_neg, ← Int.mul_neg]
theorem gcd_pos' (n d : Int) (hd : 1 ≤ d) : 1 ≤ (Int.gcd n d : Int) := by
  have : 0 < Int.gcd n d := Int.gcd_pos_of_ne_zero_right _ (by omega)
  omega
theorem gcd_le' (n d : Int) (hd : 1 ≤ d) : (Int.gcd n d : Int) ≤ d := by
  have h : (Int.gcd n d : Int) ∣ d := Int.gcd_dvd_right ..
  exact Int.le_of_dvd (by omega) h
theorem tdiv_gcd_l (n d : Int) : n.tdiv (Int.gcd n d : Int) = lowN n d := by
  rw [lowN, Int.tdiv_eq_ediv_of_dvd (Int.gcd_dvd_left ..)]
theorem tdiv_gcd_r (n d : Int) : d.tdiv (Int.gcd n d : Int) = lowD n d := by
  rw [lowD, Int.tdiv_eq_ediv_of_dvd (Int.gcd_dvd_right ..)]
theorem lowN_mul (n d : Int) : lowN n d * (Int.gcd n d : Int) = n := Int.ediv_mul_cancel (Int.gcd_dvd_left ..)
theorem lowD_mul (n d : Int) : lowD n d * (Int.gcd n d : Int) = d := Int.ediv_mul_cancel (Int.gcd_dvd_right ..)
theorem lowD_pos (n d : Int) (hd : 1 ≤ d) : 1 ≤ lowD n d := by
  have h1 := gcd_pos' n d hd
  have h2 := lowD_mul n d
  rcases Int.lt_or_le (lowD n d) 1 with h | h
  · have : lowD n d * (Int.gcd n d : Int) ≤ 0 * (Int.gcd n d : Int) := Int.mul_le_mul_of_nonneg_right (by omega) (by omega)
    omega
  · exact h
theorem lowD_le (n d : Int) (hd : 1 ≤ d) : lowD n d ≤ d := by
  have h1 := gcd_pos' n d hd
  have h2 := lowD_mul n d
  have h3 := lowD_pos n d hd
  have : lowD n d * 1 ≤ lowD n d * (Int.gcd n d : Int) := Int.mul_le_mul_of_nonneg_left h1 (by omega)
  omega
theorem lowN_nonneg (n d : Int) (hd : 1 ≤ d) (hn : 0 ≤ n) : 0 ≤ lowN n d := by
  have h1 := gcd_pos' n d hd
  exact Int.ediv_nonneg hn (by omega)
theorem lowN_le (n d : Int) (hd : 1 ≤ d) (hn : 0 ≤ n) : lowN n d ≤ n := by
  have h1 := gcd_pos' n d hd
  have h2 := lowN_mul n d
  have h3 := lowN_nonneg n d hd hn
  have : lowN n d * 1 ≤ lowN n d * (Int.gcd n d : Int) := Int.mul_le_mul_of_nonneg_left h1 h3
  omega
theorem lowN_abs (n d : Int) (hd : 1 ≤ d) : (lowN n d).natAbs ≤ n.natAbs := by
  have h1 := gcd_pos' n d hd
  have h2 := congrArg Int.natAbs (lowN_mul n d)
  rw [Int.natAbs_mul] at h2
  have h3 : (lowN n d).natAbs * 1 ≤ (lowN n d).natAbs * ((Int.gcd n d : Int)).natAbs := Nat.mul_le_mul_left _ (by omega)
  omega
/-- Cross products of a fraction and its lowest terms. -/
theorem low_cross (n d : Int) : lowN n d * d = n * lowD n d := by
  have h1 := lowN_mul n d
  have h2 := lowD_mul n d
  generalize lowN n d = a at *
  generalize lowD n d = b at *
  generalize (Int.gcd n d : Int) = g at *
  subst h1; subst h2
  rw [Int.mul_assoc, Int.mul_comm b g]

end Go.Proofs.YtmionebfepkolaaGreatDoor
