/- Dogs: Fewest of both; the chapter's example. -/
import Derived.Test.YtjgibipficojaaaDoorFewR
set_option linter.unusedSimpArgs false
set_option linter.unusedVariables false
namespace Go.Proofs.YtjgibipficojaaaDoor
open Go.RowKit
attribute [local go_sem] Later.cell

def okCJ (c : Clb) (l : List J) : Bool := vC c && vJ l
def fewE (c : Clb) (l : List J) : Int := if okCJ c l then (if (few c l).isSome then 0 else 8) else 1
def fewL (c : Clb) (l : List J) : List Int := if okCJ c l then (few c l).getD [] else []
theorem FewV.mono {w : World} {b b' : Nat} {v : Value} {o : Option (List Int)} (h : FewV w b v o) (hb : b' ≤ b) : FewV w b' v o := by
  rcases h with h | ⟨xs, h1, h2, h3⟩
  · exact .inl h
  · exact .inr ⟨xs, h1, h2, own_mono h3 hb⟩
/-- A list of dogs as a slice: nil, or at an address. -/
theorem FewV.cases {w : World} {b : Nat} {v : Value} {o : Option (List Int)} (h : FewV w b v o) : (o = none ∧ v = .slice none 0 0) ∨ (∃ xs ad n cap, o = some xs ∧ v = .slice (some ad) n cap ∧ w.ownsRow b 3 1 v xs.length (icells xs)) := by
  rcases h with h | ⟨xs, h1, h2, h3⟩
  · exact .inl h
  · obtain ⟨A, cap, rfl, _, _, _, h4⟩ := own_ints h3
    have hp : 0 < xs.length := by
      cases xs with
      | nil => exact absurd rfl h2
      | cons _ _ => simp
    obtain ⟨g, rfl, _⟩ := h4 hp
    exact .inr ⟨xs, _, _, cap, h1, rfl, h3⟩

set_option maxHeartbeats 2000000 in
theorem Fewest_any (c : Clb) (A : Option Addr) (len cap : Nat) (l : List J) (w : World) (hm : len ≤ 9223372036854775807) (hx : Rows 2 jointV dJ w w.heap.size A len l) :
    Calls Tryd.prog 11 #[climbV c, .slice A len cap] w fun e w' => (∃ v, e = .returned (.tuple #[v, .int .i64 (fewE c l)]) ∧ w'.ownsRow w.heap.size 3 1 v (fewL c l).length (icells (fewL c l))) ∧ Below w.heap.size w w' := by
  have c1 := fun W (h : Below w.heap.size w W) => valid_any c A len cap l W hm ((hx.below h).more h.size)
  have hE : fewE c l = if okCJ c l then (if (few c l).isSome then 0 else 8) else 1 := rfl
  have hL : fewL c l = if okCJ c l then (few c l).getD [] else [] := rfl
  have hok : okCJ c l = (vC c && vJ l) := rfl
  rw [hok] at hE hL
  have hq1 := fun W a n k => run_neq_slice_nil_any (P := Tryd.prog) W 33 3 a n k 0 0 Tryd.underlying33
  have hq2 := fun W a n k => Lib.run_eql_slice_nil (P := Tryd.prog) W 33 3 a n k 0 0 Tryd.underlying33
  cases hv : (vC c && vJ l)
  · rw [hv] at c1 hE hL
    rw [if_neg (by decide)] at hE hL
    rw [hE, hL]
    have C1 := Lib.hid c1
    clear c1 hx hv hE hL hok hq1 hq2
    go_enter Tryd.func11, Tryd.ntmps11
    go_wp2_with fail
    refine (C1.out _ (by repeat (first | exact Below.refl _ _ | assumption | refine Below.setCell ?_ (by first | (simp; done) | (simp; omega) | omega) _ | refine Below.drew ?_ | refine below_drewN ?_ _ | refine Below.alloc ?_ (by first | (simp; done) | (simp; omega) | omega) _ | refine below_alloc ?_ _ | refine below_step ?_ (by assumption)))).mono ?_
    rintro e w1 ⟨rfl, hb⟩
    have hB_w1 : Below w.heap.size w w1 := (by repeat (first | exact Below.refl _ _ | assumption | refine Below.setCell ?_ (by first | (simp; done) | (simp; omega) | omega) _ | refine Below.drew ?_ | refine below_drewN ?_ _ | refine Below.alloc ?_ (by first | (simp; done) | (simp; omega) | omega) _ | refine below_alloc ?_ _ | refine below_step ?_ (by assumption))); have hz_w1 := hB_w1.size; clear hb
    go_wp2
    go_ret2
    exact ⟨⟨_, rfl, World.ownsRow_nil _ _ _ _⟩, (by repeat (first | exact Below.refl _ _ | assumption | refine Below.setCell ?_ (by first | (simp; done) | (simp; omega) | omega) _ | refine Below.drew ?_ | refine below_drewN ?_ _ | refine Below.alloc ?_ (by first | (simp; done) | (simp; omega) | omega) _ | refine below_alloc ?_ _ | refine below_step ?_ (by assumption)))⟩
  · have hvv := Bool.and_eq_true .. ▸ hv
    have c2 := fun W (h : Below w.heap.size w W) => fewest_any c A len cap l W hvv.1 hvv.2 ((hx.below h).more h.size)
    rw [hv] at c1 hE hL
    rw [if_pos rfl] at hE hL
    rw [hE, hL]
    generalize few c l = o at *
    have C1 := Lib.hid c1
    have C2 := Lib.hid c2
    clear c1 c2 hx hv hE hL hok hvv
    go_enter Tryd.func11, Tryd.ntmps11
    go_wp2_with fail
    refine (C1.out _ (by repeat (first | exact Below.refl _ _ | assumption | refine Below.setCell ?_ (by first | (simp; done) | (simp; omega) | omega) _ | refine Below.drew ?_ | refine below_drewN ?_ _ | refine Below.alloc ?_ (by first | (simp; done) | (simp; omega) | omega) _ | refine below_alloc ?_ _ | refine below_step ?_ (by assumption)))).mono ?_
    rintro e w1 ⟨rfl, hb⟩
    have hB_w1 : Below w.heap.size w w1 := (by repeat (first | exact Below.refl _ _ | assumption | refine Below.setCell ?_ (by first | (simp; done) | (simp; omega) | omega) _ | refine Below.drew ?_ | refine below_drewN ?_ _ | refine Below.alloc ?_ (by first | (simp; done) | (simp; omega) | omega) _ | refine below_alloc ?_ _ | refine below_step ?_ (by assumption))); have hz_w1 := hB_w1.size; have hsw10 : w.heap.size < w1.heap.size := Nat.lt_of_lt_of_le (by first | (simp; done) | (simp; omega) | omega) hb.size; have hnw10 : ¬ w.heap.size = w1.heap.size := (by omega); have hmw10 : ¬ w1.heap.size = w.heap.size := (by omega); have hlw10_0 : w.heap.size ≤ w1.heap.size := (by omega); have hlw10_1 : w.heap.size ≤ w1.heap.size + 1 := (by omega); have hlw10_2 : w.heap.size ≤ w1.heap.size + 1 + 1 := (by omega); have hkw10 : w1.cell? ⟨w.heap.size, 0, none⟩ = some (.int .i64 c.fi) := (by rw [hb.cell (p := ⟨w.heap.size, 0, none⟩) (by first | (simp; done) | (simp; omega) | omega)]; first | (go_simp; done) | assumption); have hkw11 : w1.cell? ⟨w.heap.size, 1, none⟩ = some (.int .i64 c.ga) := (by rw [hb.cell (p := ⟨w.heap.size, 1, none⟩) (by first | (simp; done) | (simp; omega) | omega)]; first | (go_simp; done) | assumption); have hkw12 : w1.cell? ⟨w.heap.size, 2, none⟩ = some (.int .i64 c.to) := (by rw [hb.cell (p := ⟨w.heap.size, 2, none⟩) (by first | (simp; done) | (simp; omega) | omega)]; first | (go_simp; done) | assumption); have hkw13 : w1.cell? ⟨w.heap.size, 3, none⟩ = some (.int .i64 c.le) := (by rw [hb.cell (p := ⟨w.heap.size, 3, none⟩) (by first | (simp; done) | (simp; omega) | omega)]; first | (go_simp; done) | assumption); have hkw14 : w1.cell? ⟨w.heap.size, 4, none⟩ = some (.int .i64 c.la) := (by rw [hb.cell (p := ⟨w.heap.size, 4, none⟩) (by first | (simp; done) | (simp; omega) | omega)]; first | (go_simp; done) | assumption); have hkw15 : w1.cell? ⟨w.heap.size, 5, none⟩ = some (.int .i64 c.st) := (by rw [hb.cell (p := ⟨w.heap.size, 5, none⟩) (by first | (simp; done) | (simp; omega) | omega)]; first | (go_simp; done) | assumption); clear hb
    go_wp2_with fail
    refine (C2.out _ (by repeat (first | exact Below.refl _ _ | assumption | refine Below.setCell ?_ (by first | (simp; done) | (simp; omega) | omega) _ | refine Below.drew ?_ | refine below_drewN ?_ _ | refine Below.alloc ?_ (by first | (simp; done) | (simp; omega) | omega) _ | refine below_alloc ?_ _ | refine below_step ?_ (by assumption)))).mono ?_
    rintro e w2 ⟨⟨v, rfl, hf⟩, hb⟩
    rcases hf.cases with ⟨rfl, rfl⟩ | ⟨xs, ad, n, k, rfl, rfl, ho⟩
    · clear hf
      have hB_w2 : Below w.heap.size w w2 := (by repeat (first | exact Below.refl _ _ | assumption | refine Below.setCell ?_ (by first | (simp; done) | (simp; omega) | omega) _ | refine Below.drew ?_ | refine below_drewN ?_ _ | refine Below.alloc ?_ (by first | (simp; done) | (simp; omega) | omega) _ | refine below_alloc ?_ _ | refine below_step ?_ (by assumption))); have hz_w2 := hB_w2.size; clear hb hB_w1 hlw10_0 hlw10_1 hlw10_2 hkw10 hkw11 hkw12 hkw13 hkw14 hkw15
      go_wp2
      go_ret2
      exact ⟨⟨_, rfl, World.ownsRow_nil _ _ _ _⟩, (by repeat (first | exact Below.refl _ _ | assumption | refine Below.setCell ?_ (by first | (simp; done) | (simp; omega) | omega) _ | refine Below.drew ?_ | refine below_drewN ?_ _ | refine Below.alloc ?_ (by first | (simp; done) | (simp; omega) | omega) _ | refine below_alloc ?_ _ | refine below_step ?_ (by assumption)))⟩
    · have HO := Lib.hid (own_mono ho hz_w1)
      clear hf ho
      have hB_w2 : Below w.heap.size w w2 := (by repeat (first | exact Below.refl _ _ | assumption | refine Below.setCell ?_ (by first | (simp; done) | (simp; omega) | omega) _ | refine Below.drew ?_ | refine below_drewN ?_ _ | refine Below.alloc ?_ (by first | (simp; done) | (simp; omega) | omega) _ | refine below_alloc ?_ _ | refine below_step ?_ (by assumption))); have hz_w2 := hB_w2.size; clear hb hB_w1 hlw10_0 hlw10_1 hlw10_2 hkw10 hkw11 hkw12 hkw13 hkw14 hkw15
      go_wp2
      go_ret2
      exact ⟨⟨_, rfl, HO.out⟩, (by repeat (first | exact Below.refl _ _ | assumption | refine Below.setCell ?_ (by first | (simp; done) | (simp; omega) | omega) _ | refine Below.drew ?_ | refine below_drewN ?_ _ | refine Below.alloc ?_ (by first | (simp; done) | (simp; omega) | omega) _ | refine below_alloc ?_ _ | refine below_step ?_ (by assumption)))⟩
def aC : Clb := ⟨10, 20, 50, 25, 5, 1000⟩
def aL : List J := [(10, true), (20, true), (30, true), (40, true)]
theorem awake_e : fewE aC aL = 0 := by decide
theorem awake_l : fewL aC aL = [0, 2] := by decide
theorem awake_rows (w : World) (t : TypeId) : Rows 2 jointV dJ (w.alloc (.cells #[.int .i64 10, .bool true, .int .i64 20, .bool true, .int .i64 30, .bool true, .int .i64 40, .bool true] t)) (w.heap.size + 1) (some ⟨w.heap.size, 0, none⟩) 4 aL := by
  refine ⟨rfl, fun _ => ⟨w.heap.size, 0, rfl, by omega, fun k hk j v hj => ?_⟩⟩
  have hk' : k = 0 ∨ k = 1 ∨ k = 2 ∨ k = 3 := by omega
  have hj2 : j = 0 ∨ j = 1 := by
    have := (List.getElem?_eq_some_iff.1 hj).1
    simp only [jointV, List.length_cons, List.length_nil] at this
    omega
  rcases hk' with rfl | rfl | rfl | rfl <;> rcases hj2 with rfl | rfl <;> (simp [aL, jointV] at hj; subst hj; go_simp)
set_option maxHeartbeats 1000000 in
theorem awake_any (w : World) : Calls Tryd.prog 4 #[] w fun e w' => e = .returned (.bool true) ∧ Below w.heap.size w w' := by
  have c1 := fun W cap (h : Below (w.heap.size + 1) (w.alloc (.cells #[.int .i64 10, .bool true, .int .i64 20, .bool true, .int .i64 30, .bool true, .int .i64 40, .bool true] 32)) W) => Fewest_any aC (some ⟨w.heap.size, 0, none⟩) 4 cap aL W (by omega) (((awake_rows w 32).below h).more (by have := h.size; simp at this; omega))
  rw [awake_e, awake_l] at c1
  have C1 := Lib.hid c1
  clear c1
  go_enter Tryd.func4, Tryd.ntmps4
  go_wp2_with fail
  refine (C1.out _ _ (Below.refl _ _)).mono ?_
  rintro e w1 ⟨⟨v, rfl, ho⟩, hb⟩
  obtain ⟨A1, cap1, rfl, hn1, hn2, hI, hg⟩ := own_ints ho
  obtain ⟨g, rfl, hg1, hg2, hg3⟩ := hg (by decide)
  obtain ⟨b0, o0, he, _, hc0⟩ := hI.at_ 0 (by decide)
  obtain ⟨b1, o1, he1, _, hc1⟩ := hI.at_ 1 (by decide)
  injection he with he
  injection he with he2 he3 _
  subst he2 he3
  injection he1 with he1
  injection he1 with he4 he5 _
  subst he4 he5
  simp only [Nat.zero_add] at hc0 hc1
  have hB : Below w.heap.size w w1 := (by repeat (first | exact Below.refl _ _ | assumption | refine Below.setCell ?_ (by first | (simp; done) | (simp; omega) | omega) _ | refine Below.drew ?_ | refine below_drewN ?_ _ | refine Below.alloc ?_ (by first | (simp; done) | (simp; omega) | omega) _ | refine below_alloc ?_ _ | refine below_step ?_ (by assumption)))
  clear ho hI hg3 hb
  go_wp2
  go_ret
  exact ⟨rfl, hB⟩
end Go.Proofs.YtjgibipficojaaaDoor
