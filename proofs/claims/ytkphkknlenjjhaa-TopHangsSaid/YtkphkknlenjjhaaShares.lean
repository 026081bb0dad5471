/- Cradles: moments, Shares, Middle: the program's and the reference's. -/
import Derived.Test.YtkphkknlenjjhaaLoads
set_option linter.unusedSimpArgs false
set_option linter.unusedVariables false
namespace Go.Proofs.Ytkphkknlenjjhaa
open Go.RowKit

def wsum (xs : List (Int × Int)) : Int := xs.foldl (fun s x => s + x.2) 0
def msum (xs : List (Int × Int)) : Int := xs.foldl (fun s x => s + x.2 * x.1) 0
def fsum (span : Int) (xs : List (Int × Int)) : Int := xs.foldl (fun s x => s + x.2 * (span - x.1)) 0
theorem wsum_snoc (xs : List (Int × Int)) (x : Int × Int) : wsum (xs ++ [x]) = wsum xs + x.2 := by simp [wsum]
theorem msum_snoc (xs : List (Int × Int)) (x : Int × Int) : msum (xs ++ [x]) = msum xs + x.2 * x.1 := by simp [msum]
theorem fsum_snoc (span : Int) (xs : List (Int × Int)) (x : Int × Int) : fsum span (xs ++ [x]) = fsum span xs + x.2 * (span - x.1) := by simp [fsum]
theorem take_snoc' {xs : List (Int × Int)} {k : Nat} (h : k < xs.length) : xs.take (k+1) = xs.take k ++ [xs[k]?.getD (0,0)] := by
  rw [List.take_succ_eq_append_getElem h]; simp [List.getElem?_eq_getElem h]
/-- Bounds of the sums of k loads. -/
theorem sums_bd {span : Int} {xs : List (Int × Int)} (hs : 0 ≤ span) (hs2 : span ≤ 100000) (hb : ∀ x ∈ xs, 0 ≤ x.1 ∧ x.1 ≤ span ∧ 0 ≤ x.2 ∧ x.2 ≤ 1000000) : ∀ k, k ≤ xs.length →
    (0 ≤ wsum (xs.take k) ∧ wsum (xs.take k) ≤ k * 1000000) ∧ (0 ≤ msum (xs.take k) ∧ msum (xs.take k) ≤ k * 100000000000) ∧ (0 ≤ fsum span (xs.take k) ∧ fsum span (xs.take k) ≤ k * 100000000000) ∧ fsum span (xs.take k) = wsum (xs.take k) * span - msum (xs.take k) := by
  intro k
  induction k with
  | zero => intro _; simp [wsum, msum, fsum]
  | succ k ih =>
    intro h
    obtain ⟨⟨a1, a2⟩, ⟨b1, b2⟩, ⟨c1, c2⟩, d⟩ := ih (by omega)
    rw [take_snoc' (by omega), wsum_snoc, msum_snoc, fsum_snoc]
    have hx : xs[k]?.getD (0,0) ∈ xs := by rw [List.getElem?_eq_getElem (by omega)]; exact List.getElem_mem _
    obtain ⟨e1, e2, e3, e4⟩ := hb _ hx
    generalize xs[k]?.getD (0,0) = x at *
    have f1 : 0 ≤ x.2 * x.1 := Int.mul_nonneg e3 e1
    have f2 : x.2 * x.1 ≤ 1000000 * 100000 := Int.mul_le_mul e4 (by omega) e1 (by decide)
    have f3 : 0 ≤ x.2 * (span - x.1) := Int.mul_nonneg e3 (by omega)
    have f4 : x.2 * (span - x.1) ≤ 1000000 * 100000 := Int.mul_le_mul e4 (by omega) (by omega) (by decide)
    refine ⟨⟨by omega, by omega⟩, ⟨by omega, by omega⟩, ⟨by omega, by omega⟩, ?_⟩
    rw [d, Int.mul_sub, Int.add_mul]
    omega
theorem sums_all {span : Int} {xs : List (Int × Int)} {n : Nat} (hs : 0 ≤ span) (hs2 : span ≤ 100000) (hb : ∀ x ∈ xs, 0 ≤ x.1 ∧ x.1 ≤ span ∧ 0 ≤ x.2 ∧ x.2 ≤ 1000000) (hn : xs.length ≤ n) :
    (0 ≤ wsum xs ∧ wsum xs ≤ n * 1000000) ∧ (0 ≤ msum xs ∧ msum xs ≤ n * 100000000000) ∧ (0 ≤ fsum span xs ∧ fsum span xs ≤ n * 100000000000) ∧ fsum span xs = wsum xs * span - msum xs := by
  have h := sums_bd hs hs2 hb xs.length (Nat.le_refl _)
  rw [List.take_length] at h
  omega

set_option maxHeartbeats 400000 in
theorem moment_any (A : Option Addr) (len cap : Nat) (xs : List (Int × Int)) (w : World) (hm : len ≤ 21) (hx : Pairs w w.heap.size A len xs)
    (hb : ∀ x ∈ xs, 0 ≤ x.1 ∧ x.1 ≤ 100000 ∧ 0 ≤ x.2 ∧ x.2 ≤ 1000000) :
    Calls Try.prog 31 #[.slice A len cap] w fun e w' => e = .returned (.tuple #[.int .i64 (wsum xs), .int .i64 (msum xs)]) ∧ Below w.heap.size w w' := by
  have hsum := sums_bd (span := 100000) (by decide) (by decide) hb
  have HX := Lib.hid hx
  clear hx hb
  go_enter Try.func31, Try.ntmps31
  go_wp2
  go_loopw [2,3,8] (fun x y i wr => ∃ (k : Nat), k ≤ len ∧ i = .int .i64 k ∧ x = .int .i64 (wsum (xs.take k)) ∧ y = .int .i64 (msum (xs.take k)) ∧ Below w.heap.size w wr) (fun _ _ i _ => len - (intOf i).toNat)
  case atStart => exact ⟨0, Nat.zero_le _, rfl, rfl, rfl, Below.refl _ _⟩
  case round =>
    obtain ⟨k, hk, rfl, rfl, rfl, hB⟩ := hrel
    have hsz := hB.size
    by_cases hlt : k < len
    · obtain ⟨b, off, rfl, hb0, hc1, hc2⟩ := (HX.out.below hB).at_ k hlt
      have hlen : k < xs.length := by rw [HX.out.1]; exact hlt
      have h1 := hsum k (by omega)
      have h2 := hsum (k + 1) (by omega)
      have ht : Hid (xs.take (k+1) = xs.take k ++ [xs[k]?.getD (0,0)]) := take_snoc' hlen
      rw [ht.out, wsum_snoc, msum_snoc] at h2
      generalize xs[k]?.getD (0,0) = X at *
      obtain ⟨X, Y⟩ := X
      dsimp only at hc1 hc2 h2
      have hE : Hid (wsum (xs.take (k+1)) = wsum (xs.take k) + Y ∧ msum (xs.take (k+1)) = msum (xs.take k) + Y * X) := by
        show _ ∧ _
        rw [ht.out, wsum_snoc, msum_snoc]; exact ⟨rfl, rfl⟩
      generalize wsum (xs.take k) = S at *
      generalize msum (xs.take k) = M at *
      clear hsum ht
      go_wp2
      go_roundw
      case rel => exact ⟨k + 1, by omega, by go_num, by rw [hE.out.1], by rw [hE.out.2], (by repeat (first | exact Below.refl _ _ | assumption | refine Below.setCell ?_ (by first | (simp; done) | (simp; omega) | omega) _ | refine Below.drew ?_ | refine below_drewN ?_ _ | refine Below.alloc ?_ (by first | (simp; done) | (simp; omega) | omega) _ | refine below_alloc ?_ _ | refine below_step ?_ (by assumption)))⟩
      case measure => simp [intOf]; omega
    · have hkl : Hid (xs.take k = xs) := List.take_of_length_le (by rw [HX.out.1]; omega)
      go_wp2
      go_ret2
      exact ⟨by rw [hkl.out]; rfl, hB⟩

/-- Shares: the two fractions and the error. -/
def shareN1 (span : Int) (xs : List (Int × Int)) : Int := if goodL span xs then lowN (wsum xs * span - msum xs) span else 0
def shareD1 (span : Int) (xs : List (Int × Int)) : Int := if goodL span xs then lowD (wsum xs * span - msum xs) span else 0
def shareN2 (span : Int) (xs : List (Int × Int)) : Int := if goodL span xs then lowN (msum xs) span else 0
def shareD2 (span : Int) (xs : List (Int × Int)) : Int := if goodL span xs then lowD (msum xs) span else 0
def goodE (span : Int) (xs : List (Int × Int)) : Int := if goodL span xs then 0 else 1

set_option maxHeartbeats 1000000 in
theorem Shares_any (span : Int) (A : Option Addr) (len cap : Nat) (xs : List (Int × Int)) (w : World) (hm : len ≤ 9223372036854775807) (hx : Pairs w w.heap.size A len xs) :
    Calls Try.prog 13 #[.int .i64 span, .slice A len cap] w fun e w' => e = .returned (.tuple #[.agg #[.int .i64 (shareN1 span xs), .int .i64 (shareD1 span xs)], .agg #[.int .i64 (shareN2 span xs), .int .i64 (shareD2 span xs)], .int .i64 (goodE span xs)]) ∧ Below w.heap.size w w' := by
  have c1 := fun W (h : Below w.heap.size w W) => ValidLoads_any span A len cap xs W hm ((hx.below h).more h.size)
  by_cases hg : goodL span xs = true
  · obtain ⟨⟨h1, h2⟩, h3, h4⟩ := goodL_spec hg
    have hl : len ≤ 20 := by rw [← hx.1]; exact h3
    obtain ⟨⟨s1, s2⟩, ⟨s3, s4⟩, ⟨s5, s6⟩, s7⟩ := sums_all (n := 20) (by omega) h2 h4 h3
    have c2 := fun W (h : Below w.heap.size w W) => moment_any A len cap xs W (by omega) ((hx.below h).more h.size) (fun x hx => by have := h4 x hx; omega)
    rw [s7] at s5 s6
    have c3 := fun W => ratio_any (wsum xs * span - msum xs) span W h1 (by omega) (by omega) (by omega)
    have c4 := fun W => ratio_any (msum xs) span W h1 (by omega) (by omega) (by omega)
    have e1 : shareN1 span xs = lowN (wsum xs * span - msum xs) span := if_pos hg
    have e2 : shareD1 span xs = lowD (wsum xs * span - msum xs) span := if_pos hg
    have e3 : shareN2 span xs = lowN (msum xs) span := if_pos hg
    have e4 : shareD2 span xs = lowD (msum xs) span := if_pos hg
    have e5 : goodE span xs = 0 := if_pos hg
    rw [e1, e2, e3, e4, e5]
    rw [hg] at c1
    clear e1 e2 e3 e4 e5 s7
    generalize wsum xs = S at *
    generalize msum xs = M at *
    generalize lowN (S * span - M) span = N1 at *
    generalize lowD (S * span - M) span = D1 at *
    generalize lowN M span = N2 at *
    generalize lowD M span = D2 at *
    have hSs : 0 ≤ S * span := Int.mul_nonneg s1 (by omega)
    have C1 := Lib.hid c1
    have C2 := Lib.hid c2
    have C3 := Lib.hid c3
    have C4 := Lib.hid c4
    clear c1 c2 c3 c4 h4 hx hg
    go_enter Try.func13, Try.ntmps13
    go_wp2_with fail
    refine (C1.out _ (by repeat (first | exact Below.refl _ _ | assumption | refine Below.setCell ?_ (by first | (simp; done) | (simp; omega) | omega) _ | refine Below.drew ?_ | refine below_drewN ?_ _ | refine Below.alloc ?_ (by first | (simp; done) | (simp; omega) | omega) _ | refine below_alloc ?_ _ | refine below_step ?_ (by assumption)))).mono ?_
    rintro e w1 ⟨rfl, hb⟩
    have hB_w1 : Below w.heap.size w w1 := (by repeat (first | exact Below.refl _ _ | assumption | refine Below.setCell ?_ (by first | (simp; done) | (simp; omega) | omega) _ | refine Below.drew ?_ | refine below_drewN ?_ _ | refine Below.alloc ?_ (by first | (simp; done) | (simp; omega) | omega) _ | refine below_alloc ?_ _ | refine below_step ?_ (by assumption))); have hz_w1 := hB_w1.size; have hsw10 : w.heap.size < w1.heap.size := Nat.lt_of_lt_of_le (by first | (simp; done) | (simp; omega) | omega) hb.size; have hnw10 : ¬ w.heap.size = w1.heap.size := (by omega); have hmw10 : ¬ w1.heap.size = w.heap.size := (by omega); have hlw10_0 : w.heap.size ≤ w1.heap.size := (by omega); have hlw10_1 : w.heap.size ≤ w1.heap.size + 1 := (by omega); have hlw10_2 : w.heap.size ≤ w1.heap.size + 1 + 1 := (by omega); have hkw10 : w1.cell? ⟨w.heap.size, 0, none⟩ = some (.int .i64 0) := (by rw [hb.cell (p := ⟨w.heap.size, 0, none⟩) (by first | (simp; done) | (simp; omega) | omega)]; first | (go_simp; done) | assumption); have hfw10 : w1.frozen? ⟨w.heap.size, 0, none⟩ = false := (by rw [hb.frozen (p := ⟨w.heap.size, 0, none⟩) (by first | (simp; done) | (simp; omega) | omega)]; first | (go_simp; done) | assumption); have hkw11 : w1.cell? ⟨w.heap.size, 1, none⟩ = some (.int .i64 0) := (by rw [hb.cell (p := ⟨w.heap.size, 1, none⟩) (by first | (simp; done) | (simp; omega) | omega)]; first | (go_simp; done) | assumption); have hfw11 : w1.frozen? ⟨w.heap.size, 1, none⟩ = false := (by rw [hb.frozen (p := ⟨w.heap.size, 1, none⟩) (by first | (simp; done) | (simp; omega) | omega)]; first | (go_simp; done) | assumption); have hsw12 : w.heap.size + 1 < w1.heap.size := Nat.lt_of_lt_of_le (by first | (simp; done) | (simp; omega) | omega) hb.size; have hnw12 : ¬ w.heap.size + 1 = w1.heap.size := (by omega); have hmw12 : ¬ w1.heap.size = w.heap.size + 1 := (by omega); have hlw12_0 : w.heap.size + 1 ≤ w1.heap.size := (by omega); have hlw12_1 : w.heap.size + 1 ≤ w1.heap.size + 1 := (by omega); have hlw12_2 : w.heap.size + 1 ≤ w1.heap.size + 1 + 1 := (by omega); have hkw12 : w1.cell? ⟨w.heap.size + 1, 0, none⟩ = some (.int .i64 0) := (by rw [hb.cell (p := ⟨w.heap.size + 1, 0, none⟩) (by first | (simp; done) | (simp; omega) | omega)]; first | (go_simp; done) | assumption); have hfw12 : w1.frozen? ⟨w.heap.size + 1, 0, none⟩ = false := (by rw [hb.frozen (p := ⟨w.heap.size + 1, 0, none⟩) (by first | (simp; done) | (simp; omega) | omega)]; first | (go_simp; done) | assumption); have hkw13 : w1.cell? ⟨w.heap.size + 1, 1, none⟩ = some (.int .i64 0) := (by rw [hb.cell (p := ⟨w.heap.size + 1, 1, none⟩) (by first | (simp; done) | (simp; omega) | omega)]; first | (go_simp; done) | assumption); have hfw13 : w1.frozen? ⟨w.heap.size + 1, 1, none⟩ = false := (by rw [hb.frozen (p := ⟨w.heap.size + 1, 1, none⟩) (by first | (simp; done) | (simp; omega) | omega)]; first | (go_simp; done) | assumption); clear hb
    go_wp2_with fail
    refine (C2.out _ (by repeat (first | exact Below.refl _ _ | assumption | refine Below.setCell ?_ (by first | (simp; done) | (simp; omega) | omega) _ | refine Below.drew ?_ | refine below_drewN ?_ _ | refine Below.alloc ?_ (by first | (simp; done) | (simp; omega) | omega) _ | refine below_alloc ?_ _ | refine below_step ?_ (by assumption)))).mono ?_
    rintro e w2 ⟨rfl, hb⟩
    have hB_w2 : Below w.heap.size w w2 := (by repeat (first | exact Below.refl _ _ | assumption | refine Below.setCell ?_ (by first | (simp; done) | (simp; omega) | omega) _ | refine Below.drew ?_ | refine below_drewN ?_ _ | refine Below.alloc ?_ (by first | (simp; done) | (simp; omega) | omega) _ | refine below_alloc ?_ _ | refine below_step ?_ (by assumption))); have hz_w2 := hB_w2.size; have hsw20 : w.heap.size < w2.heap.size := Nat.lt_of_lt_of_le (by first | (simp; done) | (simp; omega) | omega) hb.size; have hnw20 : ¬ w.heap.size = w2.heap.size := (by omega); have hmw20 : ¬ w2.heap.size = w.heap.size := (by omega); have hlw20_0 : w.heap.size ≤ w2.heap.size := (by omega); have hlw20_1 : w.heap.size ≤ w2.heap.size + 1 := (by omega); have hlw20_2 : w.heap.size ≤ w2.heap.size + 1 + 1 := (by omega); have hkw20 : w2.cell? ⟨w.heap.size, 0, none⟩ = some (.int .i64 0) := (by rw [hb.cell (p := ⟨w.heap.size, 0, none⟩) (by first | (simp; done) | (simp; omega) | omega)]; first | (go_simp; done) | assumption); have hfw20 : w2.frozen? ⟨w.heap.size, 0, none⟩ = false := (by rw [hb.frozen (p := ⟨w.heap.size, 0, none⟩) (by first | (simp; done) | (simp; omega) | omega)]; first | (go_simp; done) | assumption); have hkw21 : w2.cell? ⟨w.heap.size, 1, none⟩ = some (.int .i64 0) := (by rw [hb.cell (p := ⟨w.heap.size, 1, none⟩) (by first | (simp; done) | (simp; omega) | omega)]; first | (go_simp; done) | assumption); have hfw21 : w2.frozen? ⟨w.heap.size, 1, none⟩ = false := (by rw [hb.frozen (p := ⟨w.heap.size, 1, none⟩) (by first | (simp; done) | (simp; omega) | omega)]; first | (go_simp; done) | assumption); have hsw22 : w.heap.size + 1 < w2.heap.size := Nat.lt_of_lt_of_le (by first | (simp; done) | (simp; omega) | omega) hb.size; have hnw22 : ¬ w.heap.size + 1 = w2.heap.size := (by omega); have hmw22 : ¬ w2.heap.size = w.heap.size + 1 := (by omega); have hlw22_0 : w.heap.size + 1 ≤ w2.heap.size := (by omega); have hlw22_1 : w.heap.size + 1 ≤ w2.heap.size + 1 := (by omega); have hlw22_2 : w.heap.size + 1 ≤ w2.heap.size + 1 + 1 := (by omega); have hkw22 : w2.cell? ⟨w.heap.size + 1, 0, none⟩ = some (.int .i64 0) := (by rw [hb.cell (p := ⟨w.heap.size + 1, 0, none⟩) (by first | (simp; done) | (simp; omega) | omega)]; first | (go_simp; done) | assumption); have hfw22 : w2.frozen? ⟨w.heap.size + 1, 0, none⟩ = false := (by rw [hb.frozen (p := ⟨w.heap.size + 1, 0, none⟩) (by first | (simp; done) | (simp; omega) | omega)]; first | (go_simp; done) | assumption); have hkw23 : w2.cell? ⟨w.heap.size + 1, 1, none⟩ = some (.int .i64 0) := (by rw [hb.cell (p := ⟨w.heap.size + 1, 1, none⟩) (by first | (simp; done) | (simp; omega) | omega)]; first | (go_simp; done) | assumption); have hfw23 : w2.frozen? ⟨w.heap.size + 1, 1, none⟩ = false := (by rw [hb.frozen (p := ⟨w.heap.size + 1, 1, none⟩) (by first | (simp; done) | (simp; omega) | omega)]; first | (go_simp; done) | assumption); clear hb hB_w1 hlw10_0 hlw10_1 hlw10_2 hkw10 hfw10 hkw11 hfw11 hlw12_0 hlw12_1 hlw12_2 hkw12 hfw12 hkw13 hfw13
    go_wp2_with fail
    refine (C3.out _).mono ?_
    rintro e w3 ⟨rfl, hb⟩
    have hB_w3 : Below w.heap.size w w3 := (by repeat (first | exact Below.refl _ _ | assumption | refine Below.setCell ?_ (by first | (simp; done) | (simp; omega) | omega) _ | refine Below.drew ?_ | refine below_drewN ?_ _ | refine Below.alloc ?_ (by first | (simp; done) | (simp; omega) | omega) _ | refine below_alloc ?_ _ | refine below_step ?_ (by assumption))); have hz_w3 := hB_w3.size; have hsw30 : w.heap.size < w3.heap.size := Nat.lt_of_lt_of_le (by first | (simp; done) | (simp; omega) | omega) hb.size; have hnw30 : ¬ w.heap.size = w3.heap.size := (by omega); have hmw30 : ¬ w3.heap.size = w.heap.size := (by omega); have hlw30_0 : w.heap.size ≤ w3.heap.size := (by omega); have hlw30_1 : w.heap.size ≤ w3.heap.size + 1 := (by omega); have hlw30_2 : w.heap.size ≤ w3.heap.size + 1 + 1 := (by omega); have hkw30 : w3.cell? ⟨w.heap.size, 0, none⟩ = some (.int .i64 0) := (by rw [hb.cell (p := ⟨w.heap.size, 0, none⟩) (by first | (simp; done) | (simp; omega) | omega)]; first | (go_simp; done) | assumption); have hfw30 : w3.frozen? ⟨w.heap.size, 0, none⟩ = false := (by rw [hb.frozen (p := ⟨w.heap.size, 0, none⟩) (by first | (simp; done) | (simp; omega) | omega)]; first | (go_simp; done) | assumption); have hkw31 : w3.cell? ⟨w.heap.size, 1, none⟩ = some (.int .i64 0) := (by rw [hb.cell (p := ⟨w.heap.size, 1, none⟩) (by first | (simp; done) | (simp; omega) | omega)]; first | (go_simp; done) | assumption); have hfw31 : w3.frozen? ⟨w.heap.size, 1, none⟩ = false := (by rw [hb.frozen (p := ⟨w.heap.size, 1, none⟩) (by first | (simp; done) | (simp; omega) | omega)]; first | (go_simp; done) | assumption); have hsw32 : w.heap.size + 1 < w3.heap.size := Nat.lt_of_lt_of_le (by first | (simp; done) | (simp; omega) | omega) hb.size; have hnw32 : ¬ w.heap.size + 1 = w3.heap.size := (by omega); have hmw32 : ¬ w3.heap.size = w.heap.size + 1 := (by omega); have hlw32_0 : w.heap.size + 1 ≤ w3.heap.size := (by omega); have hlw32_1 : w.heap.size + 1 ≤ w3.heap.size + 1 := (by omega); have hlw32_2 : w.heap.size + 1 ≤ w3.heap.size + 1 + 1 := (by omega); have hkw32 : w3.cell? ⟨w.heap.size + 1, 0, none⟩ = some (.int .i64 0) := (by rw [hb.cell (p := ⟨w.heap.size + 1, 0, none⟩) (by first | (simp; done) | (simp; omega) | omega)]; first | (go_simp; done) | assumption); have hfw32 : w3.frozen? ⟨w.heap.size + 1, 0, none⟩ = false := (by rw [hb.frozen (p := ⟨w.heap.size + 1, 0, none⟩) (by first | (simp; done) | (simp; omega) | omega)]; first | (go_simp; done) | assumption); have hkw33 : w3.cell? ⟨w.heap.size + 1, 1, none⟩ = some (.int .i64 0) := (by rw [hb.cell (p := ⟨w.heap.size + 1, 1, none⟩) (by first | (simp; done) | (simp; omega) | omega)]; first | (go_simp; done) | assumption); have hfw33 : w3.frozen? ⟨w.heap.size + 1, 1, none⟩ = false := (by rw [hb.frozen (p := ⟨w.heap.size + 1, 1, none⟩) (by first | (simp; done) | (simp; omega) | omega)]; first | (go_simp; done) | assumption); clear hb hB_w2 hlw20_0 hlw20_1 hlw20_2 hkw20 hfw20 hkw21 hfw21 hlw22_0 hlw22_1 hlw22_2 hkw22 hfw22 hkw23 hfw23
    go_wp2_with fail
    refine (C4.out _).mono ?_
    rintro e w4 ⟨rfl, hb⟩
    have hB_w4 : Below w.heap.size w w4 := (by repeat (first | exact Below.refl _ _ | assumption | refine Below.setCell ?_ (by first | (simp; done) | (simp; omega) | omega) _ | refine Below.drew ?_ | refine below_drewN ?_ _ | refine Below.alloc ?_ (by first | (simp; done) | (simp; omega) | omega) _ | refine below_alloc ?_ _ | refine below_step ?_ (by assumption))); have hz_w4 := hB_w4.size; have hsw40 : w.heap.size < w4.heap.size := Nat.lt_of_lt_of_le (by first | (simp; done) | (simp; omega) | omega) hb.size; have hnw40 : ¬ w.heap.size = w4.heap.size := (by omega); have hmw40 : ¬ w4.heap.size = w.heap.size := (by omega); have hlw40_0 : w.heap.size ≤ w4.heap.size := (by omega); have hlw40_1 : w.heap.size ≤ w4.heap.size + 1 := (by omega); have hlw40_2 : w.heap.size ≤ w4.heap.size + 1 + 1 := (by omega); have hkw40 : w4.cell? ⟨w.heap.size, 0, none⟩ = some (.int .i64 0) := (by rw [hb.cell (p := ⟨w.heap.size, 0, none⟩) (by first | (simp; done) | (simp; omega) | omega)]; first | (go_simp; done) | assumption); have hfw40 : w4.frozen? ⟨w.heap.size, 0, none⟩ = false := (by rw [hb.frozen (p := ⟨w.heap.size, 0, none⟩) (by first | (simp; done) | (simp; omega) | omega)]; first | (go_simp; done) | assumption); have hkw41 : w4.cell? ⟨w.heap.size, 1, none⟩ = some (.int .i64 0) := (by rw [hb.cell (p := ⟨w.heap.size, 1, none⟩) (by first | (simp; done) | (simp; omega) | omega)]; first | (go_simp; done) | assumption); have hfw41 : w4.frozen? ⟨w.heap.size, 1, none⟩ = false := (by rw [hb.frozen (p := ⟨w.heap.size, 1, none⟩) (by first | (simp; done) | (simp; omega) | omega)]; first | (go_simp; done) | assumption); have hsw42 : w.heap.size + 1 < w4.heap.size := Nat.lt_of_lt_of_le (by first | (simp; done) | (simp; omega) | omega) hb.size; have hnw42 : ¬ w.heap.size + 1 = w4.heap.size := (by omega); have hmw42 : ¬ w4.heap.size = w.heap.size + 1 := (by omega); have hlw42_0 : w.heap.size + 1 ≤ w4.heap.size := (by omega); have hlw42_1 : w.heap.size + 1 ≤ w4.heap.size + 1 := (by omega); have hlw42_2 : w.heap.size + 1 ≤ w4.heap.size + 1 + 1 := (by omega); have hkw42 : w4.cell? ⟨w.heap.size + 1, 0, none⟩ = some (.int .i64 0) := (by rw [hb.cell (p := ⟨w.heap.size + 1, 0, none⟩) (by first | (simp; done) | (simp; omega) | omega)]; first | (go_simp; done) | assumption); have hfw42 : w4.frozen? ⟨w.heap.size + 1, 0, none⟩ = false := (by rw [hb.frozen (p := ⟨w.heap.size + 1, 0, none⟩) (by first | (simp; done) | (simp; omega) | omega)]; first | (go_simp; done) | assumption); have hkw43 : w4.cell? ⟨w.heap.size + 1, 1, none⟩ = some (.int .i64 0) := (by rw [hb.cell (p := ⟨w.heap.size + 1, 1, none⟩) (by first | (simp; done) | (simp; omega) | omega)]; first | (go_simp; done) | assumption); have hfw43 : w4.frozen? ⟨w.heap.size + 1, 1, none⟩ = false := (by rw [hb.frozen (p := ⟨w.heap.size + 1, 1, none⟩) (by first | (simp; done) | (simp; omega) | omega)]; first | (go_simp; done) | assumption); clear hb hB_w3 hlw30_0 hlw30_1 hlw30_2 hkw30 hfw30 hkw31 hfw31 hlw32_0 hlw32_1 hlw32_2 hkw32 hfw32 hkw33 hfw33
    go_wp2
    refine bodyPost_ret (v := .tuple #[.agg #[.int .i64 N1, .int .i64 D1], .agg #[.int .i64 N2, .int .i64 D2], .int .i64 0]) (by simp [results, Try.results13, go_sem, hkw40, hkw41, hkw42, hkw43]) rfl ⟨rfl, (by repeat (first | exact Below.refl _ _ | assumption | refine Below.setCell ?_ (by first | (simp; done) | (simp; omega) | omega) _ | refine Below.drew ?_ | refine below_drewN ?_ _ | refine Below.alloc ?_ (by first | (simp; done) | (simp; omega) | omega) _ | refine below_alloc ?_ _ | refine below_step ?_ (by assumption)))⟩
  · have e1 : shareN1 span xs = 0 := if_neg hg
    have e2 : shareD1 span xs = 0 := if_neg hg
    have e3 : shareN2 span xs = 0 := if_neg hg
    have e4 : shareD2 span xs = 0 := if_neg hg
    have e5 : goodE span xs = 1 := if_neg hg
    rw [e1, e2, e3, e4, e5]
    have C1 := Lib.hid c1
    clear c1 hx
    go_enter Try.func13, Try.ntmps13
    go_wp2_with fail
    refine (C1.out _ (by repeat (first | exact Below.refl _ _ | assumption | refine Below.setCell ?_ (by first | (simp; done) | (simp; omega) | omega) _ | refine Below.drew ?_ | refine below_drewN ?_ _ | refine Below.alloc ?_ (by first | (simp; done) | (simp; omega) | omega) _ | refine below_alloc ?_ _ | refine below_step ?_ (by assumption)))).mono ?_
    rintro e w1 ⟨rfl, hb⟩
    have hB_w1 : Below w.heap.size w w1 := (by repeat (first | exact Below.refl _ _ | assumption | refine Below.setCell ?_ (by first | (simp; done) | (simp; omega) | omega) _ | refine Below.drew ?_ | refine below_drewN ?_ _ | refine Below.alloc ?_ (by first | (simp; done) | (simp; omega) | omega) _ | refine below_alloc ?_ _ | refine below_step ?_ (by assumption))); have hz_w1 := hB_w1.size; have hsw10 : w.heap.size < w1.heap.size := Nat.lt_of_lt_of_le (by first | (simp; done) | (simp; omega) | omega) hb.size; have hnw10 : ¬ w.heap.size = w1.heap.size := (by omega); have hmw10 : ¬ w1.heap.size = w.heap.size := (by omega); have hlw10_0 : w.heap.size ≤ w1.heap.size := (by omega); have hlw10_1 : w.heap.size ≤ w1.heap.size + 1 := (by omega); have hlw10_2 : w.heap.size ≤ w1.heap.size + 1 + 1 := (by omega); have hkw10 : w1.cell? ⟨w.heap.size, 0, none⟩ = some (.int .i64 0) := (by rw [hb.cell (p := ⟨w.heap.size, 0, none⟩) (by first | (simp; done) | (simp; omega) | omega)]; first | (go_simp; done) | assumption); have hfw10 : w1.frozen? ⟨w.heap.size, 0, none⟩ = false := (by rw [hb.frozen (p := ⟨w.heap.size, 0, none⟩) (by first | (simp; done) | (simp; omega) | omega)]; first | (go_simp; done) | assumption); have hkw11 : w1.cell? ⟨w.heap.size, 1, none⟩ = some (.int .i64 0) := (by rw [hb.cell (p := ⟨w.heap.size, 1, none⟩) (by first | (simp; done) | (simp; omega) | omega)]; first | (go_simp; done) | assumption); have hfw11 : w1.frozen? ⟨w.heap.size, 1, none⟩ = false := (by rw [hb.frozen (p := ⟨w.heap.size, 1, none⟩) (by first | (simp; done) | (simp; omega) | omega)]; first | (go_simp; done) | assumption); have hsw12 : w.heap.size + 1 < w1.heap.size := Nat.lt_of_lt_of_le (by first | (simp; done) | (simp; omega) | omega) hb.size; have hnw12 : ¬ w.heap.size + 1 = w1.heap.size := (by omega); have hmw12 : ¬ w1.heap.size = w.heap.size + 1 := (by omega); have hlw12_0 : w.heap.size + 1 ≤ w1.heap.size := (by omega); have hlw12_1 : w.heap.size + 1 ≤ w1.heap.size + 1 := (by omega); have hlw12_2 : w.heap.size + 1 ≤ w1.heap.size + 1 + 1 := (by omega); have hkw12 : w1.cell? ⟨w.heap.size + 1, 0, none⟩ = some (.int .i64 0) := (by rw [hb.cell (p := ⟨w.heap.size + 1, 0, none⟩) (by first | (simp; done) | (simp; omega) | omega)]; first | (go_simp; done) | assumption); have hfw12 : w1.frozen? ⟨w.heap.size + 1, 0, none⟩ = false := (by rw [hb.frozen (p := ⟨w.heap.size + 1, 0, none⟩) (by first | (simp; done) | (simp; omega) | omega)]; first | (go_simp; done) | assumption); have hkw13 : w1.cell? ⟨w.heap.size + 1, 1, none⟩ = some (.int .i64 0) := (by rw [hb.cell (p := ⟨w.heap.size + 1, 1, none⟩) (by first | (simp; done) | (simp; omega) | omega)]; first | (go_simp; done) | assumption); have hfw13 : w1.frozen? ⟨w.heap.size + 1, 1, none⟩ = false := (by rw [hb.frozen (p := ⟨w.heap.size + 1, 1, none⟩) (by first | (simp; done) | (simp; omega) | omega)]; first | (go_simp; done) | assumption); clear hb
    go_wp2
    refine bodyPost_ret (v := .tuple #[.agg #[.int .i64 0, .int .i64 0], .agg #[.int .i64 0, .int .i64 0], .int .i64 1]) (by simp [results, Try.results13, go_sem, hkw10, hkw11, hkw12, hkw13]) rfl ⟨rfl, (by repeat (first | exact Below.refl _ _ | assumption | refine Below.setCell ?_ (by first | (simp; done) | (simp; omega) | omega) _ | refine Below.drew ?_ | refine below_drewN ?_ _ | refine Below.alloc ?_ (by first | (simp; done) | (simp; omega) | omega) _ | refine below_alloc ?_ _ | refine below_step ?_ (by assumption)))⟩
def midR (span : Int) (xs : List (Int × Int)) : Int × Int × Int := if goodL span xs then (if wsum xs = 0 then (0, 0, 8) else (lowN (msum xs) (wsum xs), lowD (msum xs) (wsum xs), 0)) else (0, 0, 1)
end Go.Proofs.Ytkphkknlenjjhaa
