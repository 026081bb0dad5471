/- The dogs that may be left out: the reference. -/
import Derived.Test.YtecocbohaggokaaSpare
import Derived.Test.YtecocbohaggokaaStepApp
set_option linter.unusedSimpArgs false
set_option linter.unusedVariables false
namespace Go.Proofs.Ytecocbohaggokaa
open Go.RowKit
attribute [local go_sem] Later.cell

theorem icells_news {w : World} {b off n : Nat} {ds : List Int} (hc : ∀ k, k < n → w.cell? ⟨b, off + k, none⟩ = some (.int .i64 (ds[k]?.getD 0))) (hl : ds.length = n) (k m : Nat) (hm : k + m ≤ n) : ∀ j u, (icells ((ds.drop k).take m))[j]? = some u → w.cell? ((⟨b, off + k, none⟩ : Addr).add j) = some u := by
  intro j u hj
  have hjm : j < m := by
    have := (List.getElem?_eq_some_iff.1 hj).1
    rw [icells, List.length_map, List.length_take] at this
    omega
  have hadd : (⟨b, off + k, none⟩ : Addr).add j = ⟨b, off + (k + j), none⟩ := by rw [Addr.add_lit, Nat.add_assoc]
  rw [hadd, hc (k + j) (by omega)]
  rw [← hj, icells, List.getElem?_map, List.getElem?_take, if_pos hjm, List.getElem?_drop, List.getElem?_eq_getElem (by omega)]
  rfl

set_option maxRecDepth 20000 in
set_option maxHeartbeats 1500000 in
theorem rSpare_any (c : Clb) (A : Option Addr) (len cap : Nat) (l : List J) (A' : Option Addr) (n cap' : Nat) (ds : List Int) (w : World) (hm : len ≤ 9223372036854775807) (hm' : n ≤ 100000000) (hcap : n ≤ cap' ∧ cap' ≤ 9223372036854775807) (hx : Rows 2 jointV dJ w w.heap.size A len l) (hy : Ints w w.heap.size A' n ds) :
    Calls Try.prog 38 #[climbV c, .slice A len cap, .slice A' n cap'] w fun e w' => (∃ v, e = .returned (.tuple #[v, .int .i64 (spE c l ds)]) ∧ w'.ownsRow w.heap.size 3 1 v (spL c l ds).length (icells (spL c l ds))) ∧ Below w.heap.size w w' := by
  have hn := hy.1
  have c1 := fun W (h : Below w.heap.size w W) => bad_any c A len cap l W hm ((hx.below h).more h.size)
  have c3 := fun W (h : Below w.heap.size w W) => rRight_any c A len cap l A' n cap' ds W hm (by omega) ((hx.below h).more h.size) ((hy.below h).more h.size)
  have hE : spE c l ds = if vC c && vJ l then (if rightB c l ds then 0 else 10) else 1 := rfl
  have hL : spL c l ds = if rightB c l ds then spI c l ds ds.length else [] := rfl
  rw [hn] at hL
  cases hv : (vC c && vJ l)
  · have hr : rightB c l ds = false := by unfold rightB; rw [hv]; rfl
    rw [hv] at c1 hE
    rw [hr] at hL
    change spE c l ds = 1 at hE
    change spL c l ds = [] at hL
    rw [hE, hL]
    have C1 := Lib.hid c1
    clear c1 c3 hx hy hv hE hL hn hr
    go_enter Try.func38, Try.ntmps38
    go_wp2_with fail
    refine (C1.out _ (by repeat (first | exact Below.refl _ _ | assumption | refine Below.setCell ?_ (by first | (simp; done) | (simp; omega) | omega) _ | refine Below.drew ?_ | refine below_drewN ?_ _ | refine Below.alloc ?_ (by first | (simp; done) | (simp; omega) | omega) _ | refine below_alloc ?_ _ | refine below_step ?_ (by assumption)))).mono ?_
    rintro e w1 ⟨rfl, hb⟩
    have hB_w1 : Below w.heap.size w w1 := (by repeat (first | exact Below.refl _ _ | assumption | refine Below.setCell ?_ (by first | (simp; done) | (simp; omega) | omega) _ | refine Below.drew ?_ | refine below_drewN ?_ _ | refine Below.alloc ?_ (by first | (simp; done) | (simp; omega) | omega) _ | refine below_alloc ?_ _ | refine below_step ?_ (by assumption))); have hz_w1 := hB_w1.size; clear hb
    go_wp2
    go_ret2
    exact ⟨⟨_, rfl, World.ownsRow_nil _ _ _ _⟩, (by repeat (first | exact Below.refl _ _ | assumption | refine Below.setCell ?_ (by first | (simp; done) | (simp; omega) | omega) _ | refine Below.drew ?_ | refine below_drewN ?_ _ | refine Below.alloc ?_ (by first | (simp; done) | (simp; omega) | omega) _ | refine below_alloc ?_ _ | refine below_step ?_ (by assumption)))⟩
  · cases hr : rightB c l ds
    · rw [hv] at c1 hE
      rw [hr] at c3 hE hL
      change spE c l ds = 10 at hE
      change spL c l ds = [] at hL
      rw [hE, hL]
      have C1 := Lib.hid c1
      have C3 := Lib.hid c3
      clear c1 c3 hx hy hv hE hL hn hr
      go_enter Try.func38, Try.ntmps38
      go_wp2_with fail
      refine (C1.out _ (by repeat (first | exact Below.refl _ _ | assumption | refine Below.setCell ?_ (by first | (simp; done) | (simp; omega) | omega) _ | refine Below.drew ?_ | refine below_drewN ?_ _ | refine Below.alloc ?_ (by first | (simp; done) | (simp; omega) | omega) _ | refine below_alloc ?_ _ | refine below_step ?_ (by assumption)))).mono ?_
      rintro e w1 ⟨rfl, hb⟩
      have hB_w1 : Below w.heap.size w w1 := (by repeat (first | exact Below.refl _ _ | assumption | refine Below.setCell ?_ (by first | (simp; done) | (simp; omega) | omega) _ | refine Below.drew ?_ | refine below_drewN ?_ _ | refine Below.alloc ?_ (by first | (simp; done) | (simp; omega) | omega) _ | refine below_alloc ?_ _ | refine below_step ?_ (by assumption))); have hz_w1 := hB_w1.size; have hsw10 : w.heap.size < w1.heap.size := Nat.lt_of_lt_of_le (by first | (simp; done) | (simp; omega) | omega) hb.size; have hnw10 : ¬ w.heap.size = w1.heap.size := (by omega); have hmw10 : ¬ w1.heap.size = w.heap.size := (by omega); have hlw10_0 : w.heap.size ≤ w1.heap.size := (by omega); have hlw10_1 : w.heap.size ≤ w1.heap.size + 1 := (by omega); have hlw10_2 : w.heap.size ≤ w1.heap.size + 1 + 1 := (by omega); have hkw10 : w1.cell? ⟨w.heap.size, 0, none⟩ = some (.int .i64 c.fi) := (by rw [hb.cell (p := ⟨w.heap.size, 0, none⟩) (by first | (simp; done) | (simp; omega) | omega)]; first | (go_simp; done) | assumption); have hkw11 : w1.cell? ⟨w.heap.size, 1, none⟩ = some (.int .i64 c.ga) := (by rw [hb.cell (p := ⟨w.heap.size, 1, none⟩) (by first | (simp; done) | (simp; omega) | omega)]; first | (go_simp; done) | assumption); have hkw12 : w1.cell? ⟨w.heap.size, 2, none⟩ = some (.int .i64 c.to) := (by rw [hb.cell (p := ⟨w.heap.size, 2, none⟩) (by first | (simp; done) | (simp; omega) | omega)]; first | (go_simp; done) | assumption); have hkw13 : w1.cell? ⟨w.heap.size, 3, none⟩ = some (.int .i64 c.le) := (by rw [hb.cell (p := ⟨w.heap.size, 3, none⟩) (by first | (simp; done) | (simp; omega) | omega)]; first | (go_simp; done) | assumption); have hkw14 : w1.cell? ⟨w.heap.size, 4, none⟩ = some (.int .i64 c.la) := (by rw [hb.cell (p := ⟨w.heap.size, 4, none⟩) (by first | (simp; done) | (simp; omega) | omega)]; first | (go_simp; done) | assumption); have hkw15 : w1.cell? ⟨w.heap.size, 5, none⟩ = some (.int .i64 c.st) := (by rw [hb.cell (p := ⟨w.heap.size, 5, none⟩) (by first | (simp; done) | (simp; omega) | omega)]; first | (go_simp; done) | assumption); clear hb
      go_wp2_with fail
      refine (C3.out _ (by repeat (first | exact Below.refl _ _ | assumption | refine Below.setCell ?_ (by first | (simp; done) | (simp; omega) | omega) _ | refine Below.drew ?_ | refine below_drewN ?_ _ | refine Below.alloc ?_ (by first | (simp; done) | (simp; omega) | omega) _ | refine below_alloc ?_ _ | refine below_step ?_ (by assumption)))).mono ?_
      rintro e w2 ⟨rfl, hb⟩
      have hB_w2 : Below w.heap.size w w2 := (by repeat (first | exact Below.refl _ _ | assumption | refine Below.setCell ?_ (by first | (simp; done) | (simp; omega) | omega) _ | refine Below.drew ?_ | refine below_drewN ?_ _ | refine Below.alloc ?_ (by first | (simp; done) | (simp; omega) | omega) _ | refine below_alloc ?_ _ | refine below_step ?_ (by assumption))); have hz_w2 := hB_w2.size; clear hb hB_w1 hlw10_0 hlw10_1 hlw10_2 hkw10 hkw11 hkw12 hkw13 hkw14 hkw15
      go_wp2
      go_ret2
      exact ⟨⟨_, rfl, World.ownsRow_nil _ _ _ _⟩, (by repeat (first | exact Below.refl _ _ | assumption | refine Below.setCell ?_ (by first | (simp; done) | (simp; omega) | omega) _ | refine Below.drew ?_ | refine below_drewN ?_ _ | refine Below.alloc ?_ (by first | (simp; done) | (simp; omega) | omega) _ | refine below_alloc ?_ _ | refine below_step ?_ (by assumption)))⟩
    · have c6 := fun i g m k W (h : Below w.heap.size w W) (hm1 : m ≤ 100000000) (hz : Ints W W.heap.size (some ⟨g, 0, none⟩) m (wout ds i)) => rRight_any c A len cap l (some ⟨g, 0, none⟩) m k (wout ds i) W hm (by omega) ((hx.below h).more h.size) hz
      rw [hv] at c1 hE
      rw [hr] at c3 hE hL
      change spE c l ds = 0 at hE
      change spL c l ds = spI c l ds n at hL
      rw [hE, hL]
      obtain ⟨i0, hi, hz0, hz1, hz2⟩ := info_parts info_int
      have hI0 := Lib.hid hi
      have hI1 := Lib.hid hz0
      have hI2 := Lib.hid hz1
      have hI3 := Lib.hid hz2
      have C1 := Lib.hid c1
      have C3 := Lib.hid c3
      have HY := Lib.hid hy
      have C6 := Lib.hid c6
      clear c1 c3 c6 hx hy hv hE hL hn hr hi hz0 hz1 hz2
      go_enter Try.func38, Try.ntmps38
      go_wp2_with fail
      refine (C1.out _ (by repeat (first | exact Below.refl _ _ | assumption | refine Below.setCell ?_ (by first | (simp; done) | (simp; omega) | omega) _ | refine Below.drew ?_ | refine below_drewN ?_ _ | refine Below.alloc ?_ (by first | (simp; done) | (simp; omega) | omega) _ | refine below_alloc ?_ _ | refine below_step ?_ (by assumption)))).mono ?_
      rintro e w1 ⟨rfl, hb⟩
      have hB_w1 : Below w.heap.size w w1 := (by repeat (first | exact Below.refl _ _ | assumption | refine Below.setCell ?_ (by first | (simp; done) | (simp; omega) | omega) _ | refine Below.drew ?_ | refine below_drewN ?_ _ | refine Below.alloc ?_ (by first | (simp; done) | (simp; omega) | omega) _ | refine below_alloc ?_ _ | refine below_step ?_ (by assumption))); have hz_w1 := hB_w1.size; have hsw10 : w.heap.size < w1.heap.size := Nat.lt_of_lt_of_le (by first | (simp; done) | (simp; omega) | omega) hb.size; have hnw10 : ¬ w.heap.size = w1.heap.size := (by omega); have hmw10 : ¬ w1.heap.size = w.heap.size := (by omega); have hlw10_0 : w.heap.size ≤ w1.heap.size := (by omega); have hlw10_1 : w.heap.size ≤ w1.heap.size + 1 := (by omega); have hlw10_2 : w.heap.size ≤ w1.heap.size + 1 + 1 := (by omega); have hkw10 : w1.cell? ⟨w.heap.size, 0, none⟩ = some (.int .i64 c.fi) := (by rw [hb.cell (p := ⟨w.heap.size, 0, none⟩) (by first | (simp; done) | (simp; omega) | omega)]; first | (go_simp; done) | assumption); have hkw11 : w1.cell? ⟨w.heap.size, 1, none⟩ = some (.int .i64 c.ga) := (by rw [hb.cell (p := ⟨w.heap.size, 1, none⟩) (by first | (simp; done) | (simp; omega) | omega)]; first | (go_simp; done) | assumption); have hkw12 : w1.cell? ⟨w.heap.size, 2, none⟩ = some (.int .i64 c.to) := (by rw [hb.cell (p := ⟨w.heap.size, 2, none⟩) (by first | (simp; done) | (simp; omega) | omega)]; first | (go_simp; done) | assumption); have hkw13 : w1.cell? ⟨w.heap.size, 3, none⟩ = some (.int .i64 c.le) := (by rw [hb.cell (p := ⟨w.heap.size, 3, none⟩) (by first | (simp; done) | (simp; omega) | omega)]; first | (go_simp; done) | assumption); have hkw14 : w1.cell? ⟨w.heap.size, 4, none⟩ = some (.int .i64 c.la) := (by rw [hb.cell (p := ⟨w.heap.size, 4, none⟩) (by first | (simp; done) | (simp; omega) | omega)]; first | (go_simp; done) | assumption); have hkw15 : w1.cell? ⟨w.heap.size, 5, none⟩ = some (.int .i64 c.st) := (by rw [hb.cell (p := ⟨w.heap.size, 5, none⟩) (by first | (simp; done) | (simp; omega) | omega)]; first | (go_simp; done) | assumption); clear hb
      go_wp2_with fail
      refine (C3.out _ (by repeat (first | exact Below.refl _ _ | assumption | refine Below.setCell ?_ (by first | (simp; done) | (simp; omega) | omega) _ | refine Below.drew ?_ | refine below_drewN ?_ _ | refine Below.alloc ?_ (by first | (simp; done) | (simp; omega) | omega) _ | refine below_alloc ?_ _ | refine below_step ?_ (by assumption)))).mono ?_
      rintro e w2 ⟨rfl, hb⟩
      have hB_w2 : Below w.heap.size w w2 := (by repeat (first | exact Below.refl _ _ | assumption | refine Below.setCell ?_ (by first | (simp; done) | (simp; omega) | omega) _ | refine Below.drew ?_ | refine below_drewN ?_ _ | refine Below.alloc ?_ (by first | (simp; done) | (simp; omega) | omega) _ | refine below_alloc ?_ _ | refine below_step ?_ (by assumption))); have hz_w2 := hB_w2.size; have hsw20 : w.heap.size < w2.heap.size := Nat.lt_of_lt_of_le (by first | (simp; done) | (simp; omega) | omega) hb.size; have hnw20 : ¬ w.heap.size = w2.heap.size := (by omega); have hmw20 : ¬ w2.heap.size = w.heap.size := (by omega); have hlw20_0 : w.heap.size ≤ w2.heap.size := (by omega); have hlw20_1 : w.heap.size ≤ w2.heap.size + 1 := (by omega); have hlw20_2 : w.heap.size ≤ w2.heap.size + 1 + 1 := (by omega); have hkw20 : w2.cell? ⟨w.heap.size, 0, none⟩ = some (.int .i64 c.fi) := (by rw [hb.cell (p := ⟨w.heap.size, 0, none⟩) (by first | (simp; done) | (simp; omega) | omega)]; first | (go_simp; done) | assumption); have hkw21 : w2.cell? ⟨w.heap.size, 1, none⟩ = some (.int .i64 c.ga) := (by rw [hb.cell (p := ⟨w.heap.size, 1, none⟩) (by first | (simp; done) | (simp; omega) | omega)]; first | (go_simp; done) | assumption); have hkw22 : w2.cell? ⟨w.heap.size, 2, none⟩ = some (.int .i64 c.to) := (by rw [hb.cell (p := ⟨w.heap.size, 2, none⟩) (by first | (simp; done) | (simp; omega) | omega)]; first | (go_simp; done) | assumption); have hkw23 : w2.cell? ⟨w.heap.size, 3, none⟩ = some (.int .i64 c.le) := (by rw [hb.cell (p := ⟨w.heap.size, 3, none⟩) (by first | (simp; done) | (simp; omega) | omega)]; first | (go_simp; done) | assumption); have hkw24 : w2.cell? ⟨w.heap.size, 4, none⟩ = some (.int .i64 c.la) := (by rw [hb.cell (p := ⟨w.heap.size, 4, none⟩) (by first | (simp; done) | (simp; omega) | omega)]; first | (go_simp; done) | assumption); have hkw25 : w2.cell? ⟨w.heap.size, 5, none⟩ = some (.int .i64 c.st) := (by rw [hb.cell (p := ⟨w.heap.size, 5, none⟩) (by first | (simp; done) | (simp; omega) | omega)]; first | (go_simp; done) | assumption); clear hb hB_w1 hlw10_0 hlw10_1 hlw10_2 hkw10 hkw11 hkw12 hkw13 hkw14 hkw15
      go_wp2
      go_loopw [8, 9] (fun v i wr => SpR w2 n (spI c l ds) v i wr) (fun _ i _ => n - (intOf i).toNat)
      case atStart => exact SpR.mk 0 (Nat.zero_le _) rfl (by exact World.ownsRow_nil w2 _ _ _) (Below.refl _ _)
      case round =>
        obtain ⟨r, hr, rfl, hown, hb⟩ := hrel
        have hb3 := hb
        have hs3 := hb.size
        have hB_wr : Below w.heap.size w wr := (by repeat (first | exact Below.refl _ _ | assumption | refine Below.setCell ?_ (by first | (simp; done) | (simp; omega) | omega) _ | refine Below.drew ?_ | refine below_drewN ?_ _ | refine Below.alloc ?_ (by first | (simp; done) | (simp; omega) | omega) _ | refine below_alloc ?_ _ | refine below_step ?_ (by assumption))); have hz_wr := hB_wr.size; have hswr0 : w.heap.size < wr.heap.size := Nat.lt_of_lt_of_le (by first | (simp; done) | (simp; omega) | omega) hb.size; have hnwr0 : ¬ w.heap.size = wr.heap.size := (by omega); have hmwr0 : ¬ wr.heap.size = w.heap.size := (by omega); have hlwr0_0 : w.heap.size ≤ wr.heap.size := (by omega); have hlwr0_1 : w.heap.size ≤ wr.heap.size + 1 := (by omega); have hlwr0_2 : w.heap.size ≤ wr.heap.size + 1 + 1 := (by omega); have hkwr0 : wr.cell? ⟨w.heap.size, 0, none⟩ = some (.int .i64 c.fi) := (by rw [hb.cell (p := ⟨w.heap.size, 0, none⟩) (by first | (simp; done) | (simp; omega) | omega)]; first | (go_simp; done) | assumption); have hkwr1 : wr.cell? ⟨w.heap.size, 1, none⟩ = some (.int .i64 c.ga) := (by rw [hb.cell (p := ⟨w.heap.size, 1, none⟩) (by first | (simp; done) | (simp; omega) | omega)]; first | (go_simp; done) | assumption); have hkwr2 : wr.cell? ⟨w.heap.size, 2, none⟩ = some (.int .i64 c.to) := (by rw [hb.cell (p := ⟨w.heap.size, 2, none⟩) (by first | (simp; done) | (simp; omega) | omega)]; first | (go_simp; done) | assumption); have hkwr3 : wr.cell? ⟨w.heap.size, 3, none⟩ = some (.int .i64 c.le) := (by rw [hb.cell (p := ⟨w.heap.size, 3, none⟩) (by first | (simp; done) | (simp; omega) | omega)]; first | (go_simp; done) | assumption); have hkwr4 : wr.cell? ⟨w.heap.size, 4, none⟩ = some (.int .i64 c.la) := (by rw [hb.cell (p := ⟨w.heap.size, 4, none⟩) (by first | (simp; done) | (simp; omega) | omega)]; first | (go_simp; done) | assumption); have hkwr5 : wr.cell? ⟨w.heap.size, 5, none⟩ = some (.int .i64 c.st) := (by rw [hb.cell (p := ⟨w.heap.size, 5, none⟩) (by first | (simp; done) | (simp; omega) | omega)]; first | (go_simp; done) | assumption); clear hb hB_w2 hlw20_0 hlw20_1 hlw20_2 hkw20 hkw21 hkw22 hkw23 hkw24 hkw25
        obtain ⟨A1, cap1, rfl, hn1, hn2, -, -⟩ := own_ints hown
        have HO := Lib.hid hown
        have hLen := spI_len c l ds r
        clear hown
        by_cases hrn : r < n
        · have hy := spI_yes (c := c) (l := l) (ds := ds) (k := r)
          have hno := spI_no (c := c) (l := l) (ds := ds) (k := r)
          have hsp : spX c l ds r = rightB c l (wout ds r) := rfl
          have hr1 : (r : Int) < n := by omega
          have hr2 : ¬ n ≤ r := by omega
          have hbd : Below wr.heap.size wr wr.drew := (Below.refl _ _).drew
          have hwr : IntKind.i64.wrap ((r : Int) + 1) = (r : Int) + 1 := IntWalk.i64_in _ (by omega)
          have c7 := C6.out r
          have hq1 : r ≤ cap' := by omega
          have hq2 : r + 1 ≤ cap' := by omega
          have hq3 : r + 1 ≤ n := by omega
          have hq4 := hcap.1
          have hq5 : 0 ≤ (r : Int) + 1 := by omega
          have hq6 : (r : Int) + 1 ≤ n := by omega
          obtain ⟨b', off', rfl, hb0', hcc⟩ := (HY.out.below hB_wr).2 (by omega)
          have HNL := Lib.hid HY.out.1
          have hs0 : ∀ W, Below wr.heap.size wr W → ∀ k m, k + m ≤ n → ∀ j u, (icells ((ds.drop k).take m))[j]? = some u → W.cell? ((⟨b', off' + k, none⟩ : Addr).add j) = some u := fun W hW k m hkm => icells_news (n := n) (fun q hq => by rw [hW.cell (p := ⟨b', off' + q, none⟩) (show b' < wr.heap.size by omega)]; exact hcc q hq) HNL.out k m hkm
          obtain ⟨ad2, had2, hs2⟩ : ∃ ad2 : Addr, (if cap' = r + 1 then some (⟨b', off', none⟩ : Addr) else some ⟨b', off' + (r + 1), none⟩) = some ad2 ∧ ∀ W, Below wr.heap.size wr W → ∀ j u, (icells (ds.drop (r + 1)))[j]? = some u → W.cell? (ad2.add j) = some u := by
            by_cases hce : cap' = r + 1
            · refine ⟨_, if_pos hce, fun W hW j u hj => ?_⟩
              rw [List.drop_eq_nil_of_le (by have := HNL.out; omega)] at hj
              simp [icells] at hj
            · refine ⟨_, if_neg hce, fun W hW j u hj => ?_⟩
              refine hs0 W hW (r + 1) (n - (r + 1)) (by omega) j u ?_
              rw [List.take_of_length_le (by rw [List.length_drop]; have := HNL.out; omega)]
              exact hj
          have HS0 := Lib.hid hs0
          have HS2 := Lib.hid hs2
          clear hcc hs0 hs2
          cases hq : rightB c l (wout ds r)
          · rw [hq] at c7 hsp
            have HNX := Lib.hid (hno hsp)
            have C7 := Lib.hid c7
            clear c7 hy hno hsp hq
            go_wp2
            go_region_law (first | (refine step_append_own0 rfl (.tmp 27) (.tmp 30) 25 rfl wr.heap.size 3 i0 (.int .i64 0) 1 8 Try.underlying25 hI0.out hI1.out hI2.out hI3.out rfl (by decide) (.slice (some ⟨wr.heap.size, 0, none⟩) 0 0) 0 [] (by simp [Act.eval, Act.put]) (own_later (World.ownsRow_made wr #[] 0 (Nat.le_refl _) (Nat.zero_le _) rfl) (Below.refl _ _).drew) (by simp) ⟨b', off', none⟩ r cap' (icells ((ds.drop 0).take r)) (by simp [Act.eval, Act.put]) (by rw [icells_len, List.length_take, List.drop_zero, HNL.out]; omega) (HS0.out _ (((Below.refl _ _).alloc (Nat.le_refl _) _).drew) 0 r (by omega)) (icells_one _) (by unfold maxLen; omega) (by omega) (by simp) ?_; intro g6 cap6 w6 hown6 hgr6; have hB6 : Below wr.heap.size wr w6 := (((Below.refl _ _).alloc (Nat.le_refl _) _).drew).trans (grown_below hgr6 (by simp) (by intro q hq; simp [Value.ownBlock] at hq; omega))) | (refine step_append_own0 rfl (.tmp 31) (.tmp 35) 25 rfl wr.heap.size 3 i0 (.int .i64 0) 1 8 Try.underlying25 hI0.out hI1.out hI2.out hI3.out rfl (by decide) (.slice (some ⟨g6, 0, none⟩) (0 + r) cap6) (0 + r) _ (by simp [Act.eval, Act.put]) hown6 (by simp) ad2 (n - (r + 1)) (cap' - (r + 1)) (icells (ds.drop (r + 1))) (by simp [Act.eval, Act.put]) (by rw [icells_len, List.length_drop, HNL.out] <;> omega) (HS2.out _ hB6) (icells_one _) (by unfold maxLen; omega) (by omega) hB6.size ?_; intro g7 cap7 w7 hown7 hgr7; have hB7 : Below wr.heap.size wr w7 := hB6.trans (grown_below hgr7 hB6.size (fun q hq => (hown6.lt q hq).1))))
            all_goals
              have hI7 : Ints w7 w7.heap.size (some ⟨g7, 0, none⟩) (r + (n - (r + 1))) (wout ds r) := by
                have h : w7.ownsRow wr.heap.size 3 1 (.slice (some ⟨g7, 0, none⟩) (0 + r + (n - (r + 1))) cap7) (0 + r + (n - (r + 1))) (icells (wout ds r)) := by
                  have h := hown7
                  rw [List.drop_zero, List.nil_append, ← icells_app] at h
                  exact h
                rw [Nat.zero_add] at h
                obtain ⟨A', k', hv, _, _, hI, _⟩ := own_ints h
                injection hv with e1
                rw [e1]; exact hI
              have HI7 := Lib.hid hI7
              have HO7 := Lib.hid (own_later HO.out hB7)
              clear hI7 hown6 hown7 hgr6 hgr7 hB6
              have hb := hB7
              have hB_w7 : Below w.heap.size w w7 := (by repeat (first | exact Below.refl _ _ | assumption | refine Below.setCell ?_ (by first | (simp; done) | (simp; omega) | omega) _ | refine Below.drew ?_ | refine below_drewN ?_ _ | refine Below.alloc ?_ (by first | (simp; done) | (simp; omega) | omega) _ | refine below_alloc ?_ _ | refine below_step ?_ (by assumption))); have hz_w7 := hB_w7.size; have hsw70 : w.heap.size < w7.heap.size := Nat.lt_of_lt_of_le (by first | (simp; done) | (simp; omega) | omega) hb.size; have hnw70 : ¬ w.heap.size = w7.heap.size := (by omega); have hmw70 : ¬ w7.heap.size = w.heap.size := (by omega); have hlw70_0 : w.heap.size ≤ w7.heap.size := (by omega); have hlw70_1 : w.heap.size ≤ w7.heap.size + 1 := (by omega); have hlw70_2 : w.heap.size ≤ w7.heap.size + 1 + 1 := (by omega); have hkw70 : w7.cell? ⟨w.heap.size, 0, none⟩ = some (.int .i64 c.fi) := (by rw [hb.cell (p := ⟨w.heap.size, 0, none⟩) (by first | (simp; done) | (simp; omega) | omega)]; first | (go_simp; done) | assumption); have hkw71 : w7.cell? ⟨w.heap.size, 1, none⟩ = some (.int .i64 c.ga) := (by rw [hb.cell (p := ⟨w.heap.size, 1, none⟩) (by first | (simp; done) | (simp; omega) | omega)]; first | (go_simp; done) | assumption); have hkw72 : w7.cell? ⟨w.heap.size, 2, none⟩ = some (.int .i64 c.to) := (by rw [hb.cell (p := ⟨w.heap.size, 2, none⟩) (by first | (simp; done) | (simp; omega) | omega)]; first | (go_simp; done) | assumption); have hkw73 : w7.cell? ⟨w.heap.size, 3, none⟩ = some (.int .i64 c.le) := (by rw [hb.cell (p := ⟨w.heap.size, 3, none⟩) (by first | (simp; done) | (simp; omega) | omega)]; first | (go_simp; done) | assumption); have hkw74 : w7.cell? ⟨w.heap.size, 4, none⟩ = some (.int .i64 c.la) := (by rw [hb.cell (p := ⟨w.heap.size, 4, none⟩) (by first | (simp; done) | (simp; omega) | omega)]; first | (go_simp; done) | assumption); have hkw75 : w7.cell? ⟨w.heap.size, 5, none⟩ = some (.int .i64 c.st) := (by rw [hb.cell (p := ⟨w.heap.size, 5, none⟩) (by first | (simp; done) | (simp; omega) | omega)]; first | (go_simp; done) | assumption); clear hb hB_wr hlwr0_0 hlwr0_1 hlwr0_2 hkwr0 hkwr1 hkwr2 hkwr3 hkwr4 hkwr5
              have hb37 := hb3.trans (hB7.mono hb3.size)
              clear hB7
              go_wp2_with fail
              refine (C7.out g7 _ cap7 _ hB_w7 (by omega) HI7.out).mono ?_
              rintro e w8 ⟨rfl, hb⟩
              have hb38 := hb37.trans (hb.mono hb37.size)
              have HO8 := Lib.hid (own_later HO7.out hb)
              clear hb
              go_wp2
              go_roundw
              case rel => exact SpR.mk (r + 1) (by omega) (by go_num) (by rw [HNX.out]; exact HO8.out) hb38
              case measure => simp [intOf]; omega
          · rw [hq] at c7 hsp
            have HNX := Lib.hid (hy hsp)
            have C7 := Lib.hid c7
            clear c7 hy hno hsp hq
            go_wp2
            go_region_law (first | (refine step_append_own0 rfl (.tmp 27) (.tmp 30) 25 rfl wr.heap.size 3 i0 (.int .i64 0) 1 8 Try.underlying25 hI0.out hI1.out hI2.out hI3.out rfl (by decide) (.slice (some ⟨wr.heap.size, 0, none⟩) 0 0) 0 [] (by simp [Act.eval, Act.put]) (own_later (World.ownsRow_made wr #[] 0 (Nat.le_refl _) (Nat.zero_le _) rfl) (Below.refl _ _).drew) (by simp) ⟨b', off', none⟩ r cap' (icells ((ds.drop 0).take r)) (by simp [Act.eval, Act.put]) (by rw [icells_len, List.length_take, List.drop_zero, HNL.out]; omega) (HS0.out _ (((Below.refl _ _).alloc (Nat.le_refl _) _).drew) 0 r (by omega)) (icells_one _) (by unfold maxLen; omega) (by omega) (by simp) ?_; intro g6 cap6 w6 hown6 hgr6; have hB6 : Below wr.heap.size wr w6 := (((Below.refl _ _).alloc (Nat.le_refl _) _).drew).trans (grown_below hgr6 (by simp) (by intro q hq; simp [Value.ownBlock] at hq; omega))) | (refine step_append_own0 rfl (.tmp 31) (.tmp 35) 25 rfl wr.heap.size 3 i0 (.int .i64 0) 1 8 Try.underlying25 hI0.out hI1.out hI2.out hI3.out rfl (by decide) (.slice (some ⟨g6, 0, none⟩) (0 + r) cap6) (0 + r) _ (by simp [Act.eval, Act.put]) hown6 (by simp) ad2 (n - (r + 1)) (cap' - (r + 1)) (icells (ds.drop (r + 1))) (by simp [Act.eval, Act.put]) (by rw [icells_len, List.length_drop, HNL.out] <;> omega) (HS2.out _ hB6) (icells_one _) (by unfold maxLen; omega) (by omega) hB6.size ?_; intro g7 cap7 w7 hown7 hgr7; have hB7 : Below wr.heap.size wr w7 := hB6.trans (grown_below hgr7 hB6.size (fun q hq => (hown6.lt q hq).1))))
            all_goals
              have hI7 : Ints w7 w7.heap.size (some ⟨g7, 0, none⟩) (r + (n - (r + 1))) (wout ds r) := by
                have h : w7.ownsRow wr.heap.size 3 1 (.slice (some ⟨g7, 0, none⟩) (0 + r + (n - (r + 1))) cap7) (0 + r + (n - (r + 1))) (icells (wout ds r)) := by
                  have h := hown7
                  rw [List.drop_zero, List.nil_append, ← icells_app] at h
                  exact h
                rw [Nat.zero_add] at h
                obtain ⟨A', k', hv, _, _, hI, _⟩ := own_ints h
                injection hv with e1
                rw [e1]; exact hI
              have HI7 := Lib.hid hI7
              have HO7 := Lib.hid (own_later HO.out hB7)
              clear hI7 hown6 hown7 hgr6 hgr7 hB6
              have hb := hB7
              have hB_w7 : Below w.heap.size w w7 := (by repeat (first | exact Below.refl _ _ | assumption | refine Below.setCell ?_ (by first | (simp; done) | (simp; omega) | omega) _ | refine Below.drew ?_ | refine below_drewN ?_ _ | refine Below.alloc ?_ (by first | (simp; done) | (simp; omega) | omega) _ | refine below_alloc ?_ _ | refine below_step ?_ (by assumption))); have hz_w7 := hB_w7.size; have hsw70 : w.heap.size < w7.heap.size := Nat.lt_of_lt_of_le (by first | (simp; done) | (simp; omega) | omega) hb.size; have hnw70 : ¬ w.heap.size = w7.heap.size := (by omega); have hmw70 : ¬ w7.heap.size = w.heap.size := (by omega); have hlw70_0 : w.heap.size ≤ w7.heap.size := (by omega); have hlw70_1 : w.heap.size ≤ w7.heap.size + 1 := (by omega); have hlw70_2 : w.heap.size ≤ w7.heap.size + 1 + 1 := (by omega); have hkw70 : w7.cell? ⟨w.heap.size, 0, none⟩ = some (.int .i64 c.fi) := (by rw [hb.cell (p := ⟨w.heap.size, 0, none⟩) (by first | (simp; done) | (simp; omega) | omega)]; first | (go_simp; done) | assumption); have hkw71 : w7.cell? ⟨w.heap.size, 1, none⟩ = some (.int .i64 c.ga) := (by rw [hb.cell (p := ⟨w.heap.size, 1, none⟩) (by first | (simp; done) | (simp; omega) | omega)]; first | (go_simp; done) | assumption); have hkw72 : w7.cell? ⟨w.heap.size, 2, none⟩ = some (.int .i64 c.to) := (by rw [hb.cell (p := ⟨w.heap.size, 2, none⟩) (by first | (simp; done) | (simp; omega) | omega)]; first | (go_simp; done) | assumption); have hkw73 : w7.cell? ⟨w.heap.size, 3, none⟩ = some (.int .i64 c.le) := (by rw [hb.cell (p := ⟨w.heap.size, 3, none⟩) (by first | (simp; done) | (simp; omega) | omega)]; first | (go_simp; done) | assumption); have hkw74 : w7.cell? ⟨w.heap.size, 4, none⟩ = some (.int .i64 c.la) := (by rw [hb.cell (p := ⟨w.heap.size, 4, none⟩) (by first | (simp; done) | (simp; omega) | omega)]; first | (go_simp; done) | assumption); have hkw75 : w7.cell? ⟨w.heap.size, 5, none⟩ = some (.int .i64 c.st) := (by rw [hb.cell (p := ⟨w.heap.size, 5, none⟩) (by first | (simp; done) | (simp; omega) | omega)]; first | (go_simp; done) | assumption); clear hb hB_wr hlwr0_0 hlwr0_1 hlwr0_2 hkwr0 hkwr1 hkwr2 hkwr3 hkwr4 hkwr5
              have hb37 := hb3.trans (hB7.mono hb3.size)
              clear hB7
              go_wp2_with fail
              refine (C7.out g7 _ cap7 _ hB_w7 (by omega) HI7.out).mono ?_
              rintro e w8 ⟨rfl, hb⟩
              have hb38 := hb37.trans (hb.mono hb37.size)
              have HO8 := Lib.hid (own_later HO7.out hb)
              clear hb
              have hs38 := hb38.size
              go_wp2_with (at_builtin; go_loud (refine wpList_append_own _ rfl (.tmp 41) (.tmp 43) 25 rfl w2.heap.size 3 i0 (.int .i64 0) 1 8 Try.underlying25 hI0.out hI1.out hI2.out hI3.out rfl (by decide) _ _ _ rfl (HO8.out.alloc _) ⟨w8.heap.size, 0, none⟩ 1 1 [.int .i64 (r : Int)] rfl rfl (news1 _ _ _) (one1 _) (by unfold maxLen; omega) (by omega) (by simp; omega) ?_))
              intro v' w9 hown' hgrow _
              have hb9 : Below w2.heap.size w2 w9 := (below_alloc hb38 _).trans (grown_below hgrow (by simp; omega) (fun q hq => (HO8.out.lt q hq).1))
              have HO9 : Hid (w9.ownsRow w2.heap.size 3 1 v' (spI c l ds r ++ [(r : Int)]).length (icells (spI c l ds r ++ [(r : Int)]))) := by
                rw [List.length_append, icells_app]; exact hown'
              clear hown' hgrow
              go_wp2
              go_roundw
              case rel => exact SpR.mk (r + 1) (by omega) (by go_num) (by rw [HNX.out]; exact HO9.out) hb9
              case measure => simp [intOf]; omega
        · have hrn' : r = n := by omega
          have hO2 : wr.ownsRow w.heap.size 3 1 (.slice A1 (spI c l ds r).length cap1) (spI c l ds n).length (icells (spI c l ds n)) := by
            have h := own_mono HO.out hz_w2
            rw [← hrn']; exact h
          have HO2 := Lib.hid hO2
          clear hO2 hrn'
          go_wp2
          go_ret2
          exact ⟨⟨_, rfl, HO2.out⟩, hB_wr⟩
end Go.Proofs.Ytecocbohaggokaa
