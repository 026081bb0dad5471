/- LadderNeeded: the walk of the statement. -/
import Derived.Test.YtecocbohaggokaaNeededR
import Derived.Test.YtecocbohaggokaaSameI
import Derived.Test.YtecocbohaggokaaLLeast
set_option linter.unusedSimpArgs false
set_option linter.unusedVariables false
namespace Go.Proofs.Ytecocbohaggokaa
open Go.RowKit
attribute [local go_sem] Later.cell

def memI (xs : List Int) (i : Int) (k : Nat) : Bool := decide (i ∈ xs.take k)
theorem memI_next {xs : List Int} {i : Int} {k : Nat} (hk : k < xs.length) : memI xs i (k + 1) = (memI xs i k || (xs[k]?.getD 0 == i)) := by
  have hm : i ∈ xs.take (k + 1) ↔ (i ∈ xs.take k ∨ xs[k]?.getD 0 = i) := by
    rw [List.take_succ_eq_append_getElem hk, List.mem_append, List.mem_singleton, List.getElem?_eq_getElem hk]
    exact or_congr Iff.rfl ⟨fun h => h.symm, fun h => h.symm⟩
  unfold memI
  generalize xs[k]?.getD 0 = X at *
  by_cases h : i ∈ xs.take k
  · rw [decide_eq_true h, decide_eq_true (hm.2 (.inl h))]; rfl
  · by_cases h2 : X = i
    · rw [decide_eq_true (hm.2 (.inr h2)), decide_eq_false h]; simp [h2]
    · rw [decide_eq_false (fun hh => (hm.1 hh).elim h h2), decide_eq_false h]; simp [h2]
theorem memI_all (xs : List Int) (i : Int) : memI xs i xs.length = decide (i ∈ xs) := by unfold memI; rw [List.take_length]

def MR (w0 : World) (n : Nat) (p : Nat → Bool) (s i : Value) (wr : World) : Prop := ∃ (k : Nat) (b : Bool), k ≤ n ∧ i = .int .i64 k ∧ s = .bool b ∧ Hid (b = p k) ∧ w0 = wr
theorem MR.mk {w0 : World} {n : Nat} {p : Nat → Bool} {s i : Value} {wr : World} (k : Nat) (b : Bool) (h1 : k ≤ n) (h2 : i = .int .i64 k) (h3 : s = .bool b) (h4 : Hid (b = p k)) (h5 : w0 = wr) : MR w0 n p s i wr := ⟨k, b, h1, h2, h3, h4, h5⟩

set_option maxRecDepth 20000 in
set_option maxHeartbeats 4000000 in
theorem needed_walk (fi ga to le la st : Int) (A : Option Addr) (len cap : Nat) (l : List J) (i : Int) (w : World)
    (_ : -9223372036854775808 ≤ fi ∧ fi ≤ 9223372036854775807) (_ : -9223372036854775808 ≤ ga ∧ ga ≤ 9223372036854775807) (_ : -9223372036854775808 ≤ to ∧ to ≤ 9223372036854775807) (_ : -9223372036854775808 ≤ le ∧ le ≤ 9223372036854775807) (_ : -9223372036854775808 ≤ la ∧ la ≤ 9223372036854775807) (_ : -9223372036854775808 ≤ st ∧ st ≤ 9223372036854775807)
    (hm : len ≤ cap ∧ cap ≤ 9223372036854775807) (hx : Rows 2 jointV dJ w w.heap.size A len l) (_ : ∀ x ∈ l, -9223372036854775808 ≤ x.1 ∧ x.1 ≤ 9223372036854775807) (hib : -9223372036854775808 ≤ i ∧ i ≤ 9223372036854775807) :
    Calls Try.prog 7 #[.agg #[.int .i64 fi, .int .i64 ga, .int .i64 to, .int .i64 le, .int .i64 la, .int .i64 st], .slice A len cap, .int .i64 i] w fun e w' => e = .returned (.bool true) ∧ Below w.heap.size w w' := by
  have c0 := fun W => small_any A len cap none 0 0 W
  by_cases hs : len ≤ 80
  · rw [decide_eq_true hs, show decide (0 ≤ 80) = true from rfl, Bool.true_and] at c0
    have c1 := fun W (hh : Below w.heap.size w W) => Needed_any ⟨fi, ga, to, le, la, st⟩ A len cap l W (by omega) ((hx.below hh).more hh.size)
    have c2 := fun W (hh : Below w.heap.size w W) => rNeeded_any ⟨fi, ga, to, le, la, st⟩ A len cap l W (by omega) ((hx.below hh).more hh.size)
    have c3 := fun W (hh : Below w.heap.size w W) => Failed_any A len cap l i W (by omega) ((hx.below hh).more hh.size) hib
    have c4 := fun W (hh : Below w.heap.size w W) => rFailed_any A len cap l i W (by omega) ((hx.below hh).more hh.size) hib
    have c5 := fun A1 n k1 W (hn : n ≤ 9223372036854775807) (hR : Rows 2 jointV dJ W W.heap.size A1 n (faL l i)) => Fewest_any ⟨fi, ga, to, le, la, st⟩ A1 n k1 (faL l i) W hn hR
    have hf := fun h1 h2 => needed_facts (c := ⟨fi, ga, to, le, la, st⟩) (l := l) (i := i) h1 h2
    generalize ndE _ l = E1 at *
    generalize ndL _ l = L at *
    generalize faE l i = E2 at *
    generalize faL l i = M at *
    generalize fewE _ M = E3 at *
    generalize fewL _ M = R3 at *
    have C0 := Lib.hid c0
    have C1 := Lib.hid c1
    have C2 := Lib.hid c2
    have C3 := Lib.hid c3
    have C4 := Lib.hid c4
    have C5 := Lib.hid c5
    have HF := Lib.hid hf
    clear c0 c1 c2 c3 c4 c5 hx hf
    go_enter Try.func7, Try.ntmps7
    go_wp2_with (go_at_call 11; refine (C0.out _).mono ?_; rintro e w' ⟨rfl, rfl⟩)
    refine (C1.out _ (by repeat (first | exact Below.refl _ _ | assumption | refine Below.setCell ?_ (by first | (simp; done) | (simp; omega) | omega) _ | refine Below.drew ?_ | refine below_drewN ?_ _ | refine Below.alloc ?_ (by first | (simp; done) | (simp; omega) | omega) _ | refine below_alloc ?_ _ | refine below_step ?_ (by assumption)))).mono ?_
    rintro e w1 ⟨⟨v1, rfl, ho1⟩, hb⟩
    obtain ⟨A1, k1, rfl, hm1, hm2, hI1, -⟩ := own_ints ho1
    have HI1 := Lib.hid hI1
    clear ho1 hI1
    have hB_w1 : Below w.heap.size w w1 := (by repeat (first | exact Below.refl _ _ | assumption | refine Below.setCell ?_ (by first | (simp; done) | (simp; omega) | omega) _ | refine Below.drew ?_ | refine below_drewN ?_ _ | refine Below.alloc ?_ (by first | (simp; done) | (simp; omega) | omega) _ | refine below_alloc ?_ _ | refine below_step ?_ (by assumption))); have hz_w1 := hB_w1.size; have hsw10 : w.heap.size < w1.heap.size := Nat.lt_of_lt_of_le (by first | (simp; done) | (simp; omega) | omega) hb.size; have hnw10 : ¬ w.heap.size = w1.heap.size := (by omega); have hmw10 : ¬ w1.heap.size = w.heap.size := (by omega); have hlw10_0 : w.heap.size ≤ w1.heap.size := (by omega); have hlw10_1 : w.heap.size ≤ w1.heap.size + 1 := (by omega); have hlw10_2 : w.heap.size ≤ w1.heap.size + 1 + 1 := (by omega); have hkw10 : w1.cell? ⟨w.heap.size, 0, none⟩ = some (.int .i64 fi) := (by rw [hb.cell (p := ⟨w.heap.size, 0, none⟩) (by first | (simp; done) | (simp; omega) | omega)]; first | (go_simp; done) | assumption); have hkw11 : w1.cell? ⟨w.heap.size, 1, none⟩ = some (.int .i64 ga) := (by rw [hb.cell (p := ⟨w.heap.size, 1, none⟩) (by first | (simp; done) | (simp; omega) | omega)]; first | (go_simp; done) | assumption); have hkw12 : w1.cell? ⟨w.heap.size, 2, none⟩ = some (.int .i64 to) := (by rw [hb.cell (p := ⟨w.heap.size, 2, none⟩) (by first | (simp; done) | (simp; omega) | omega)]; first | (go_simp; done) | assumption); have hkw13 : w1.cell? ⟨w.heap.size, 3, none⟩ = some (.int .i64 le) := (by rw [hb.cell (p := ⟨w.heap.size, 3, none⟩) (by first | (simp; done) | (simp; omega) | omega)]; first | (go_simp; done) | assumption); have hkw14 : w1.cell? ⟨w.heap.size, 4, none⟩ = some (.int .i64 la) := (by rw [hb.cell (p := ⟨w.heap.size, 4, none⟩) (by first | (simp; done) | (simp; omega) | omega)]; first | (go_simp; done) | assumption); have hkw15 : w1.cell? ⟨w.heap.size, 5, none⟩ = some (.int .i64 st) := (by rw [hb.cell (p := ⟨w.heap.size, 5, none⟩) (by first | (simp; done) | (simp; omega) | omega)]; first | (go_simp; done) | assumption); clear hb
    go_wp2_with fail
    refine (C2.out _ (by repeat (first | exact Below.refl _ _ | assumption | refine Below.setCell ?_ (by first | (simp; done) | (simp; omega) | omega) _ | refine Below.drew ?_ | refine below_drewN ?_ _ | refine Below.alloc ?_ (by first | (simp; done) | (simp; omega) | omega) _ | refine below_alloc ?_ _ | refine below_step ?_ (by assumption)))).mono ?_
    rintro e w2 ⟨⟨v2, rfl, ho2⟩, hb⟩
    obtain ⟨A2, k2, rfl, hm3, hm4, hI2, -⟩ := own_ints ho2
    have HI3 := Lib.hid ((HI1.out.below hb).more hb.size)
    have HI2 := Lib.hid hI2
    clear ho2 hI2 HI1
    have hB_w2 : Below w.heap.size w w2 := (by repeat (first | exact Below.refl _ _ | assumption | refine Below.setCell ?_ (by first | (simp; done) | (simp; omega) | omega) _ | refine Below.drew ?_ | refine below_drewN ?_ _ | refine Below.alloc ?_ (by first | (simp; done) | (simp; omega) | omega) _ | refine below_alloc ?_ _ | refine below_step ?_ (by assumption))); have hz_w2 := hB_w2.size; have hsw20 : w.heap.size < w2.heap.size := Nat.lt_of_lt_of_le (by first | (simp; done) | (simp; omega) | omega) hb.size; have hnw20 : ¬ w.heap.size = w2.heap.size := (by omega); have hmw20 : ¬ w2.heap.size = w.heap.size := (by omega); have hlw20_0 : w.heap.size ≤ w2.heap.size := (by omega); have hlw20_1 : w.heap.size ≤ w2.heap.size + 1 := (by omega); have hlw20_2 : w.heap.size ≤ w2.heap.size + 1 + 1 := (by omega); have hkw20 : w2.cell? ⟨w.heap.size, 0, none⟩ = some (.int .i64 fi) := (by rw [hb.cell (p := ⟨w.heap.size, 0, none⟩) (by first | (simp; done) | (simp; omega) | omega)]; first | (go_simp; done) | assumption); have hkw21 : w2.cell? ⟨w.heap.size, 1, none⟩ = some (.int .i64 ga) := (by rw [hb.cell (p := ⟨w.heap.size, 1, none⟩) (by first | (simp; done) | (simp; omega) | omega)]; first | (go_simp; done) | assumption); have hkw22 : w2.cell? ⟨w.heap.size, 2, none⟩ = some (.int .i64 to) := (by rw [hb.cell (p := ⟨w.heap.size, 2, none⟩) (by first | (simp; done) | (simp; omega) | omega)]; first | (go_simp; done) | assumption); have hkw23 : w2.cell? ⟨w.heap.size, 3, none⟩ = some (.int .i64 le) := (by rw [hb.cell (p := ⟨w.heap.size, 3, none⟩) (by first | (simp; done) | (simp; omega) | omega)]; first | (go_simp; done) | assumption); have hkw24 : w2.cell? ⟨w.heap.size, 4, none⟩ = some (.int .i64 la) := (by rw [hb.cell (p := ⟨w.heap.size, 4, none⟩) (by first | (simp; done) | (simp; omega) | omega)]; first | (go_simp; done) | assumption); have hkw25 : w2.cell? ⟨w.heap.size, 5, none⟩ = some (.int .i64 st) := (by rw [hb.cell (p := ⟨w.heap.size, 5, none⟩) (by first | (simp; done) | (simp; omega) | omega)]; first | (go_simp; done) | assumption); clear hb hB_w1 hlw10_0 hlw10_1 hlw10_2 hkw10 hkw11 hkw12 hkw13 hkw14 hkw15
    go_wp2_with fail
    refine (C3.out _ (by repeat (first | exact Below.refl _ _ | assumption | refine Below.setCell ?_ (by first | (simp; done) | (simp; omega) | omega) _ | refine Below.drew ?_ | refine below_drewN ?_ _ | refine Below.alloc ?_ (by first | (simp; done) | (simp; omega) | omega) _ | refine below_alloc ?_ _ | refine below_step ?_ (by assumption)))).mono ?_
    rintro e w3 ⟨⟨v3, rfl, ho3⟩, hb⟩
    obtain ⟨A3, k3, rfl, hm5, hm6, hR3, -⟩ := own_joints ho3
    have HJ1 := Lib.hid ((HI3.out.below hb).more hb.size)
    have HJ2 := Lib.hid ((HI2.out.below hb).more hb.size)
    have HR3 := Lib.hid hR3
    clear ho3 hR3 HI3 HI2
    have hB_w3 : Below w.heap.size w w3 := (by repeat (first | exact Below.refl _ _ | assumption | refine Below.setCell ?_ (by first | (simp; done) | (simp; omega) | omega) _ | refine Below.drew ?_ | refine below_drewN ?_ _ | refine Below.alloc ?_ (by first | (simp; done) | (simp; omega) | omega) _ | refine below_alloc ?_ _ | refine below_step ?_ (by assumption))); have hz_w3 := hB_w3.size; have hsw30 : w.heap.size < w3.heap.size := Nat.lt_of_lt_of_le (by first | (simp; done) | (simp; omega) | omega) hb.size; have hnw30 : ¬ w.heap.size = w3.heap.size := (by omega); have hmw30 : ¬ w3.heap.size = w.heap.size := (by omega); have hlw30_0 : w.heap.size ≤ w3.heap.size := (by omega); have hlw30_1 : w.heap.size ≤ w3.heap.size + 1 := (by omega); have hlw30_2 : w.heap.size ≤ w3.heap.size + 1 + 1 := (by omega); have hkw30 : w3.cell? ⟨w.heap.size, 0, none⟩ = some (.int .i64 fi) := (by rw [hb.cell (p := ⟨w.heap.size, 0, none⟩) (by first | (simp; done) | (simp; omega) | omega)]; first | (go_simp; done) | assumption); have hkw31 : w3.cell? ⟨w.heap.size, 1, none⟩ = some (.int .i64 ga) := (by rw [hb.cell (p := ⟨w.heap.size, 1, none⟩) (by first | (simp; done) | (simp; omega) | omega)]; first | (go_simp; done) | assumption); have hkw32 : w3.cell? ⟨w.heap.size, 2, none⟩ = some (.int .i64 to) := (by rw [hb.cell (p := ⟨w.heap.size, 2, none⟩) (by first | (simp; done) | (simp; omega) | omega)]; first | (go_simp; done) | assumption); have hkw33 : w3.cell? ⟨w.heap.size, 3, none⟩ = some (.int .i64 le) := (by rw [hb.cell (p := ⟨w.heap.size, 3, none⟩) (by first | (simp; done) | (simp; omega) | omega)]; first | (go_simp; done) | assumption); have hkw34 : w3.cell? ⟨w.heap.size, 4, none⟩ = some (.int .i64 la) := (by rw [hb.cell (p := ⟨w.heap.size, 4, none⟩) (by first | (simp; done) | (simp; omega) | omega)]; first | (go_simp; done) | assumption); have hkw35 : w3.cell? ⟨w.heap.size, 5, none⟩ = some (.int .i64 st) := (by rw [hb.cell (p := ⟨w.heap.size, 5, none⟩) (by first | (simp; done) | (simp; omega) | omega)]; first | (go_simp; done) | assumption); clear hb hB_w2 hlw20_0 hlw20_1 hlw20_2 hkw20 hkw21 hkw22 hkw23 hkw24 hkw25
    go_wp2_with fail
    refine (C4.out _ (by repeat (first | exact Below.refl _ _ | assumption | refine Below.setCell ?_ (by first | (simp; done) | (simp; omega) | omega) _ | refine Below.drew ?_ | refine below_drewN ?_ _ | refine Below.alloc ?_ (by first | (simp; done) | (simp; omega) | omega) _ | refine below_alloc ?_ _ | refine below_step ?_ (by assumption)))).mono ?_
    rintro e w4 ⟨⟨v4, rfl, ho4⟩, hb⟩
    obtain ⟨A4, k4, rfl, hm7, hm8, hR4, -⟩ := own_joints ho4
    have HI1 := Lib.hid ((HJ1.out.below hb).more hb.size)
    have HI2 := Lib.hid ((HJ2.out.below hb).more hb.size)
    have HR1 := Lib.hid ((HR3.out.below hb).more hb.size)
    have HR2 := Lib.hid hR4
    clear ho4 hR4 HJ1 HJ2 HR3
    have hB_w4 : Below w.heap.size w w4 := (by repeat (first | exact Below.refl _ _ | assumption | refine Below.setCell ?_ (by first | (simp; done) | (simp; omega) | omega) _ | refine Below.drew ?_ | refine below_drewN ?_ _ | refine Below.alloc ?_ (by first | (simp; done) | (simp; omega) | omega) _ | refine below_alloc ?_ _ | refine below_step ?_ (by assumption))); have hz_w4 := hB_w4.size; have hsw40 : w.heap.size < w4.heap.size := Nat.lt_of_lt_of_le (by first | (simp; done) | (simp; omega) | omega) hb.size; have hnw40 : ¬ w.heap.size = w4.heap.size := (by omega); have hmw40 : ¬ w4.heap.size = w.heap.size := (by omega); have hlw40_0 : w.heap.size ≤ w4.heap.size := (by omega); have hlw40_1 : w.heap.size ≤ w4.heap.size + 1 := (by omega); have hlw40_2 : w.heap.size ≤ w4.heap.size + 1 + 1 := (by omega); have hkw40 : w4.cell? ⟨w.heap.size, 0, none⟩ = some (.int .i64 fi) := (by rw [hb.cell (p := ⟨w.heap.size, 0, none⟩) (by first | (simp; done) | (simp; omega) | omega)]; first | (go_simp; done) | assumption); have hkw41 : w4.cell? ⟨w.heap.size, 1, none⟩ = some (.int .i64 ga) := (by rw [hb.cell (p := ⟨w.heap.size, 1, none⟩) (by first | (simp; done) | (simp; omega) | omega)]; first | (go_simp; done) | assumption); have hkw42 : w4.cell? ⟨w.heap.size, 2, none⟩ = some (.int .i64 to) := (by rw [hb.cell (p := ⟨w.heap.size, 2, none⟩) (by first | (simp; done) | (simp; omega) | omega)]; first | (go_simp; done) | assumption); have hkw43 : w4.cell? ⟨w.heap.size, 3, none⟩ = some (.int .i64 le) := (by rw [hb.cell (p := ⟨w.heap.size, 3, none⟩) (by first | (simp; done) | (simp; omega) | omega)]; first | (go_simp; done) | assumption); have hkw44 : w4.cell? ⟨w.heap.size, 4, none⟩ = some (.int .i64 la) := (by rw [hb.cell (p := ⟨w.heap.size, 4, none⟩) (by first | (simp; done) | (simp; omega) | omega)]; first | (go_simp; done) | assumption); have hkw45 : w4.cell? ⟨w.heap.size, 5, none⟩ = some (.int .i64 st) := (by rw [hb.cell (p := ⟨w.heap.size, 5, none⟩) (by first | (simp; done) | (simp; omega) | omega)]; first | (go_simp; done) | assumption); clear hb hB_w3 hlw30_0 hlw30_1 hlw30_2 hkw30 hkw31 hkw32 hkw33 hkw34 hkw35
    go_wp2_with fail
    refine (SameInts_any A1 L.length k1 L A2 L.length k2 L _ (by unfold maxLen at hm2; omega) (by unfold maxLen at hm4; omega) HI1.out HI2.out).mono ?_
    rintro e w5 ⟨rfl, hb⟩
    have hRR : decide (L = L) = true := by simp
    have HI3 := Lib.hid ((HI1.out.below hb).more hb.size)
    have HR3 := Lib.hid ((HR1.out.below hb).more hb.size)
    have HR4 := Lib.hid ((HR2.out.below hb).more hb.size)
    clear HI1 HI2 HR1 HR2
    have hB_w5 : Below w.heap.size w w5 := (by repeat (first | exact Below.refl _ _ | assumption | refine Below.setCell ?_ (by first | (simp; done) | (simp; omega) | omega) _ | refine Below.drew ?_ | refine below_drewN ?_ _ | refine Below.alloc ?_ (by first | (simp; done) | (simp; omega) | omega) _ | refine below_alloc ?_ _ | refine below_step ?_ (by assumption))); have hz_w5 := hB_w5.size; have hsw50 : w.heap.size < w5.heap.size := Nat.lt_of_lt_of_le (by first | (simp; done) | (simp; omega) | omega) hb.size; have hnw50 : ¬ w.heap.size = w5.heap.size := (by omega); have hmw50 : ¬ w5.heap.size = w.heap.size := (by omega); have hlw50_0 : w.heap.size ≤ w5.heap.size := (by omega); have hlw50_1 : w.heap.size ≤ w5.heap.size + 1 := (by omega); have hlw50_2 : w.heap.size ≤ w5.heap.size + 1 + 1 := (by omega); have hkw50 : w5.cell? ⟨w.heap.size, 0, none⟩ = some (.int .i64 fi) := (by rw [hb.cell (p := ⟨w.heap.size, 0, none⟩) (by first | (simp; done) | (simp; omega) | omega)]; first | (go_simp; done) | assumption); have hkw51 : w5.cell? ⟨w.heap.size, 1, none⟩ = some (.int .i64 ga) := (by rw [hb.cell (p := ⟨w.heap.size, 1, none⟩) (by first | (simp; done) | (simp; omega) | omega)]; first | (go_simp; done) | assumption); have hkw52 : w5.cell? ⟨w.heap.size, 2, none⟩ = some (.int .i64 to) := (by rw [hb.cell (p := ⟨w.heap.size, 2, none⟩) (by first | (simp; done) | (simp; omega) | omega)]; first | (go_simp; done) | assumption); have hkw53 : w5.cell? ⟨w.heap.size, 3, none⟩ = some (.int .i64 le) := (by rw [hb.cell (p := ⟨w.heap.size, 3, none⟩) (by first | (simp; done) | (simp; omega) | omega)]; first | (go_simp; done) | assumption); have hkw54 : w5.cell? ⟨w.heap.size, 4, none⟩ = some (.int .i64 la) := (by rw [hb.cell (p := ⟨w.heap.size, 4, none⟩) (by first | (simp; done) | (simp; omega) | omega)]; first | (go_simp; done) | assumption); have hkw55 : w5.cell? ⟨w.heap.size, 5, none⟩ = some (.int .i64 st) := (by rw [hb.cell (p := ⟨w.heap.size, 5, none⟩) (by first | (simp; done) | (simp; omega) | omega)]; first | (go_simp; done) | assumption); clear hb hB_w4 hlw40_0 hlw40_1 hlw40_2 hkw40 hkw41 hkw42 hkw43 hkw44 hkw45
    go_wp2_with fail
    refine (Same_any A3 M.length k3 A4 k4 M _ (by unfold maxLen at hm6; omega) HR3.out HR4.out).mono ?_
    rintro e w6 ⟨rfl, hb⟩
    have HI4 := Lib.hid ((HI3.out.below hb).more hb.size)
    have HR5 := Lib.hid ((HR3.out.below hb).more hb.size)
    clear HI3 HR3 HR4
    have hB_w6 : Below w.heap.size w w6 := (by repeat (first | exact Below.refl _ _ | assumption | refine Below.setCell ?_ (by first | (simp; done) | (simp; omega) | omega) _ | refine Below.drew ?_ | refine below_drewN ?_ _ | refine Below.alloc ?_ (by first | (simp; done) | (simp; omega) | omega) _ | refine below_alloc ?_ _ | refine below_step ?_ (by assumption))); have hz_w6 := hB_w6.size; have hsw60 : w.heap.size < w6.heap.size := Nat.lt_of_lt_of_le (by first | (simp; done) | (simp; omega) | omega) hb.size; have hnw60 : ¬ w.heap.size = w6.heap.size := (by omega); have hmw60 : ¬ w6.heap.size = w.heap.size := (by omega); have hlw60_0 : w.heap.size ≤ w6.heap.size := (by omega); have hlw60_1 : w.heap.size ≤ w6.heap.size + 1 := (by omega); have hlw60_2 : w.heap.size ≤ w6.heap.size + 1 + 1 := (by omega); have hkw60 : w6.cell? ⟨w.heap.size, 0, none⟩ = some (.int .i64 fi) := (by rw [hb.cell (p := ⟨w.heap.size, 0, none⟩) (by first | (simp; done) | (simp; omega) | omega)]; first | (go_simp; done) | assumption); have hkw61 : w6.cell? ⟨w.heap.size, 1, none⟩ = some (.int .i64 ga) := (by rw [hb.cell (p := ⟨w.heap.size, 1, none⟩) (by first | (simp; done) | (simp; omega) | omega)]; first | (go_simp; done) | assumption); have hkw62 : w6.cell? ⟨w.heap.size, 2, none⟩ = some (.int .i64 to) := (by rw [hb.cell (p := ⟨w.heap.size, 2, none⟩) (by first | (simp; done) | (simp; omega) | omega)]; first | (go_simp; done) | assumption); have hkw63 : w6.cell? ⟨w.heap.size, 3, none⟩ = some (.int .i64 le) := (by rw [hb.cell (p := ⟨w.heap.size, 3, none⟩) (by first | (simp; done) | (simp; omega) | omega)]; first | (go_simp; done) | assumption); have hkw64 : w6.cell? ⟨w.heap.size, 4, none⟩ = some (.int .i64 la) := (by rw [hb.cell (p := ⟨w.heap.size, 4, none⟩) (by first | (simp; done) | (simp; omega) | omega)]; first | (go_simp; done) | assumption); have hkw65 : w6.cell? ⟨w.heap.size, 5, none⟩ = some (.int .i64 st) := (by rw [hb.cell (p := ⟨w.heap.size, 5, none⟩) (by first | (simp; done) | (simp; omega) | omega)]; first | (go_simp; done) | assumption); clear hb hB_w5 hlw50_0 hlw50_1 hlw50_2 hkw50 hkw51 hkw52 hkw53 hkw54 hkw55
    unfold maxLen at hm2 hm6
    by_cases h1 : E1 = 0
    · by_cases h2 : E2 = 0
      · have hfx := HF.out h1 h2
        have HFX := Lib.hid hfx
        clear hfx HF
        subst h1 h2
        generalize hll : L.length = n at *
        have HLL := Lib.hid hll
        clear hll
        go_wp2
        go_loopw [15, 16] (fun s x wr => MR w6 n (memI L i) s x wr) (fun _ x _ => n - (intOf x).toNat)
        case atStart => exact MR.mk 0 false (Nat.zero_le _) rfl rfl (Lib.hid (by simp [memI])) rfl
        case round =>
          obtain ⟨k, b, hk, rfl, rfl, hbk, rfl⟩ := hrel
          by_cases hkn : k < n
          · obtain ⟨b1, off1, rfl, hb01, hc01⟩ := HI4.out.at_ k hkn
            have hnx := memI_next (xs := L) (i := i) (k := k) (by rw [HLL.out]; exact hkn)
            rw [← hbk.out] at hnx
            have HNX := Lib.hid hnx
            generalize L[k]?.getD 0 = X at *
            have hk1 : (k : Int) < n := by omega
            have hk2 : ¬ n ≤ k := by omega
            clear hnx hbk
            cases b
            · by_cases hxi : X = i
              · have hxi' : (X == i) = true := by simpa using hxi
                clear hxi
                go_wp2
                go_roundw
                case rel => exact MR.mk (k + 1) true (by omega) (by go_num) rfl (Lib.hid (by rw [HNX.out, hxi']; rfl)) rfl
                case measure => simp [intOf]; omega
              · have hxi' : (X == i) = false := by simpa using hxi
                clear hxi
                go_wp2
                go_roundw
                case rel => exact MR.mk (k + 1) false (by omega) (by go_num) rfl (Lib.hid (by rw [HNX.out, hxi']; rfl)) rfl
                case measure => simp [intOf]; omega
            · go_wp2
              go_roundw
              case rel => exact MR.mk (k + 1) true (by omega) (by go_num) rfl (Lib.hid (by rw [HNX.out]; rfl)) rfl
              case measure => simp [intOf]; omega
          · have hkn' : k = n := by omega
            have hbb := hbk.out
            rw [hkn', ← HLL.out, memI_all] at hbb
            have hcs : (b = true ∧ E3 = 8) ∨ (b = false ∧ E3 = 0) := by
              rcases HFX.out with ⟨g1, g2⟩ | ⟨g1, g2⟩
              · exact .inl ⟨by rw [hbb]; exact decide_eq_true g1, g2⟩
              · exact .inr ⟨by rw [hbb]; exact decide_eq_false g1, g2⟩
            clear hkn' hbb hbk
            rcases hcs with ⟨rfl, rfl⟩ | ⟨rfl, rfl⟩
            · go_wp2_with fail
              refine (C5.out A3 M.length k3 _ (by omega) HR5.out).mono ?_
              rintro e w7 ⟨⟨v7, rfl, -⟩, hb⟩
              have hB_w7 : Below w.heap.size w w7 := (by repeat (first | exact Below.refl _ _ | assumption | refine Below.setCell ?_ (by first | (simp; done) | (simp; omega) | omega) _ | refine Below.drew ?_ | refine below_drewN ?_ _ | refine Below.alloc ?_ (by first | (simp; done) | (simp; omega) | omega) _ | refine below_alloc ?_ _ | refine below_step ?_ (by assumption))); have hz_w7 := hB_w7.size; clear hb hB_w6 hlw60_0 hlw60_1 hlw60_2 hkw60 hkw61 hkw62 hkw63 hkw64 hkw65
              go_wp2_with (go_at_call 13; refine (awake_any _).mono ?_; rintro e w8 ⟨rfl, hb1⟩)
              go_ret
              exact ⟨rfl, (by repeat (first | exact Below.refl _ _ | assumption | refine Below.setCell ?_ (by first | (simp; done) | (simp; omega) | omega) _ | refine Below.drew ?_ | refine below_drewN ?_ _ | refine Below.alloc ?_ (by first | (simp; done) | (simp; omega) | omega) _ | refine below_alloc ?_ _ | refine below_step ?_ (by assumption)))⟩
            · go_wp2_with fail
              refine (C5.out A3 M.length k3 _ (by omega) HR5.out).mono ?_
              rintro e w7 ⟨⟨v7, rfl, -⟩, hb⟩
              have hB_w7 : Below w.heap.size w w7 := (by repeat (first | exact Below.refl _ _ | assumption | refine Below.setCell ?_ (by first | (simp; done) | (simp; omega) | omega) _ | refine Below.drew ?_ | refine below_drewN ?_ _ | refine Below.alloc ?_ (by first | (simp; done) | (simp; omega) | omega) _ | refine below_alloc ?_ _ | refine below_step ?_ (by assumption))); have hz_w7 := hB_w7.size; clear hb hB_w6 hlw60_0 hlw60_1 hlw60_2 hkw60 hkw61 hkw62 hkw63 hkw64 hkw65
              go_wp2_with (go_at_call 13; refine (awake_any _).mono ?_; rintro e w8 ⟨rfl, hb1⟩)
              go_ret
              exact ⟨rfl, (by repeat (first | exact Below.refl _ _ | assumption | refine Below.setCell ?_ (by first | (simp; done) | (simp; omega) | omega) _ | refine Below.drew ?_ | refine below_drewN ?_ _ | refine Below.alloc ?_ (by first | (simp; done) | (simp; omega) | omega) _ | refine below_alloc ?_ _ | refine below_step ?_ (by assumption)))⟩
      · have h2' : (E2 == 0) = false := by simpa using h2
        clear HF
        subst h1
        go_wp2_with (go_at_call 13; refine (awake_any _).mono ?_; rintro e w8 ⟨rfl, hb1⟩)
        go_ret
        exact ⟨rfl, (by repeat (first | exact Below.refl _ _ | assumption | refine Below.setCell ?_ (by first | (simp; done) | (simp; omega) | omega) _ | refine Below.drew ?_ | refine below_drewN ?_ _ | refine Below.alloc ?_ (by first | (simp; done) | (simp; omega) | omega) _ | refine below_alloc ?_ _ | refine below_step ?_ (by assumption)))⟩
    · have h1' : (E1 == 0) = false := by simpa using h1
      clear HF
      go_wp2_with (go_at_call 13; refine (awake_any _).mono ?_; rintro e w8 ⟨rfl, hb1⟩)
      go_ret
      exact ⟨rfl, (by repeat (first | exact Below.refl _ _ | assumption | refine Below.setCell ?_ (by first | (simp; done) | (simp; omega) | omega) _ | refine Below.drew ?_ | refine below_drewN ?_ _ | refine Below.alloc ?_ (by first | (simp; done) | (simp; omega) | omega) _ | refine below_alloc ?_ _ | refine below_step ?_ (by assumption)))⟩
  · rw [decide_eq_false hs, Bool.false_and] at c0
    have C0 := Lib.hid c0
    clear c0 hx hs
    go_enter Try.func7, Try.ntmps7
    go_wp2_with (first | (go_at_call 11; refine (C0.out _).mono ?_; rintro e w' ⟨rfl, rfl⟩) | (go_at_call 13; refine (awake_any _).mono ?_; rintro e w1 ⟨rfl, hb1⟩))
    go_ret
    exact ⟨rfl, (by repeat (first | exact Below.refl _ _ | assumption | refine Below.setCell ?_ (by first | (simp; done) | (simp; omega) | omega) _ | refine Below.drew ?_ | refine below_drewN ?_ _ | refine Below.alloc ?_ (by first | (simp; done) | (simp; omega) | omega) _ | refine below_alloc ?_ _ | refine below_step ?_ (by assumption)))⟩
end Go.Proofs.Ytecocbohaggokaa
