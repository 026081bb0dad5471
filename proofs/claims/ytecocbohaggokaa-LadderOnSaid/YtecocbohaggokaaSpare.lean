/- The dogs that may be left out: the program. -/
import Derived.Test.YtecocbohaggokaaOnR
import Derived.Test.YtecocbohaggokaaSnd
set_option linter.unusedSimpArgs false
set_option linter.unusedVariables false
namespace Go.Proofs.Ytecocbohaggokaa
open Go.RowKit
attribute [local go_sem] Later.cell

theorem cloneI_any (A : Option Addr) (n cap : Nat) (ds : List Int) (w : World) (hn : 0 < n) (hm : n ≤ 100000000) (hy : Ints w w.heap.size A n ds) :
    Calls Try.prog 64 #[.slice A n cap] w fun e w' => (∃ v, e = .returned v ∧ w'.ownsRow w.heap.size 3 1 v n (icells ds)) ∧ Below w.heap.size w w' := by
  obtain ⟨b, off, rfl, hb0, hc⟩ := hy.2 hn
  have hl := hy.1
  refine (Try.slices_Clone_int b off n cap ds w (by omega) (by omega) (fun j hj => by rw [hc j (by omega)]; simp [List.getD])).mono fun e w' ⟨v, he, ho, _, hb⟩ => ⟨⟨v, he, ?_⟩, hb⟩
  rw [List.take_of_length_le (by omega)] at ho
  exact ho
theorem deleteI_any (g n cap base i : Nat) (e : TypeId) (zs : List Int) (w : World) (h : w.ownsRow base e 1 (.slice (some ⟨g, 0, none⟩) n cap) n (icells zs)) (hm : n ≤ 100000000) (hi : i < n) :
    Calls Try.prog 63 #[.slice (some ⟨g, 0, none⟩) n cap, .int .i64 i, .int .i64 ((i : Int) + 1)] w fun e' w' => e' = .returned (.slice (some ⟨g, 0, none⟩) (n - 1) cap) ∧ Ints w' w'.heap.size (some ⟨g, 0, none⟩) (n - 1) (wout zs i) ∧ Below base w w' := by
  obtain ⟨A', cap', hv, h1, h2, h3, h4⟩ := own_ints h
  injection hv with e1 e2 e3
  subst e1 e3
  obtain ⟨g', hg', hg1, hg2, hg3⟩ := h4 (by omega)
  cases hg'
  obtain ⟨b, off, hb, _, hc⟩ := h3.2 (by omega)
  cases hb
  have hzl := h3.1
  unfold maxLen at h2
  have hc2 := Try.slices_Delete_int_cells g 0 n cap i (i + 1) zs w (by omega) h1 h2 (by omega) (by omega) (fun j hj => by rw [hc j (by omega)]; simp [List.getD]) (fun j hj => by have := hg3 j hj; simpa using this)
  rw [show (((i + 1 : Nat) : Int)) = (i : Int) + 1 by omega, show i + 1 - i = 1 by omega] at hc2
  refine hc2.mono fun e' w' ⟨he, q, hw⟩ => ⟨he, ?_, ?_⟩
  · have hsz : w'.heap.size = w.heap.size := by
      rw [hw]
      have hfr : ∀ (vs : List Value) (o : Nat) (W : World), (W.setCells g o vs).heap.size = W.heap.size := by
        intro vs
        induction vs with
        | nil => intro o W; rfl
        | cons v vs ih => intro o W; show ((W.setCell _ v).setCells g (o + 1) vs).heap.size = _; rw [ih]; simp
      rw [hfr]
      have hdr : ∀ (n : Nat) (W : World), (W.drewN n).heap.size = W.heap.size := by
        intro n
        induction n with
        | zero => intro W; rfl
        | succ n ih => intro W; rfl
      rw [hdr]
    have ht : zs.take n = zs := List.take_of_length_le (by omega)
    rw [ht] at hw
    have hwl : (wout zs i).length = n - 1 := by unfold wout; simp; omega
    refine ⟨hwl, fun _ => ⟨g, 0, rfl, by omega, fun k hk => ?_⟩⟩
    have hlen : ((zs.take i ++ zs.drop (i + 1) ++ List.replicate 1 0).map (Value.int .i64)).length = n := by simp; omega
    have hin := World.cell?_setCells_in g ((zs.take i ++ zs.drop (i + 1) ++ List.replicate 1 0).map (Value.int .i64)) 0 (w.drewN q) (fun j hj => by
      rw [hlen] at hj
      have := hc j hj
      have hd : (w.drewN q).cell? ⟨g, 0 + j, none⟩ = w.cell? ⟨g, 0 + j, none⟩ := by go_simp
      rw [hd, this]; rfl) k (by rw [hlen]; omega)
    rw [hw, hin]
    have hk' : k < (wout zs i).length := by omega
    have e : (zs.take i ++ zs.drop (i + 1) ++ List.replicate 1 0)[k]'(by simp at hlen ⊢; omega) = (wout zs i)[k] := by
      unfold wout
      exact List.getElem_append_left _
    simp only [List.getElem_map]
    rw [e, List.getElem?_eq_getElem hk']; rfl
  · rw [hw]
    exact Lib.below_setCells g hg1 _ _ (below_drewN (Below.refl _ _) _)

def SpR (w3 : World) (n : Nat) (L : Nat → List Int) (v i : Value) (wr : World) : Prop :=
  ∃ r : Nat, r ≤ n ∧ i = .int .i64 r ∧ wr.ownsRow w3.heap.size 3 1 v (L r).length (icells (L r)) ∧ Below w3.heap.size w3 wr
theorem SpR.mk {w3 : World} {n : Nat} {L : Nat → List Int} {v i : Value} {wr : World} (r : Nat) (h1 : r ≤ n) (h2 : i = .int .i64 r) (h3 : wr.ownsRow w3.heap.size 3 1 v (L r).length (icells (L r))) (h4 : Below w3.heap.size w3 wr) : SpR w3 n L v i wr := ⟨r, h1, h2, h3, h4⟩

set_option maxRecDepth 20000 in
set_option maxHeartbeats 1500000 in
theorem Spare_any (c : Clb) (A : Option Addr) (len cap : Nat) (l : List J) (A' : Option Addr) (n cap' : Nat) (ds : List Int) (w : World) (hm : len ≤ 9223372036854775807) (hm' : n ≤ 100000000) (hx : Rows 2 jointV dJ w w.heap.size A len l) (hy : Ints w w.heap.size A' n ds) :
    Calls Try.prog 37 #[climbV c, .slice A len cap, .slice A' n cap'] w fun e w' => (∃ v, e = .returned (.tuple #[v, .int .i64 (spE c l ds)]) ∧ w'.ownsRow w.heap.size 3 1 v (spL c l ds).length (icells (spL c l ds))) ∧ Below w.heap.size w w' := by
  have hn := hy.1
  have c1 := fun W (h : Below w.heap.size w W) => valid_any c A len cap l W hm ((hx.below h).more h.size)
  have c3 := fun W (h : Below w.heap.size w W) => Right_any c A len cap l A' n cap' ds W hm (by omega) ((hx.below h).more h.size) ((hy.below h).more h.size)
  have hE : spE c l ds = if vC c && vJ l then (if rightB c l ds then 0 else 10) else 1 := rfl
  have hL : spL c l ds = if rightB c l ds then spI c l ds ds.length else [] := rfl
  rw [hn] at hL
  cases hv : (vC c && vJ l)
  · have hr : rightB c l ds = false := by unfold rightB; rw [hv]; rfl
    rw [hv] at c1 hE
    rw [hr] at hL
    change spE c l ds = 1 at hE
    change spL c l ds = [] at hL
    rw [hE, hL]
    have C1 := Lib.hid c1
    clear c1 c3 hx hy hv hE hL hn hr
    go_enter Try.func37, Try.ntmps37
    go_wp2_with fail
    refine (C1.out _ (by repeat (first | exact Below.refl _ _ | assumption | refine Below.setCell ?_ (by first | (simp; done) | (simp; omega) | omega) _ | refine Below.drew ?_ | refine below_drewN ?_ _ | refine Below.alloc ?_ (by first | (simp; done) | (simp; omega) | omega) _ | refine below_alloc ?_ _ | refine below_step ?_ (by assumption)))).mono ?_
    rintro e w1 ⟨rfl, hb⟩
    have hB_w1 : Below w.heap.size w w1 := (by repeat (first | exact Below.refl _ _ | assumption | refine Below.setCell ?_ (by first | (simp; done) | (simp; omega) | omega) _ | refine Below.drew ?_ | refine below_drewN ?_ _ | refine Below.alloc ?_ (by first | (simp; done) | (simp; omega) | omega) _ | refine below_alloc ?_ _ | refine below_step ?_ (by assumption))); have hz_w1 := hB_w1.size; clear hb
    go_wp2
    go_ret2
    exact ⟨⟨_, rfl, World.ownsRow_nil _ _ _ _⟩, (by repeat (first | exact Below.refl _ _ | assumption | refine Below.setCell ?_ (by first | (simp; done) | (simp; omega) | omega) _ | refine Below.drew ?_ | refine below_drewN ?_ _ | refine Below.alloc ?_ (by first | (simp; done) | (simp; omega) | omega) _ | refine below_alloc ?_ _ | refine below_step ?_ (by assumption)))⟩
  · cases hr : rightB c l ds
    · rw [hv] at c1 hE
      rw [hr] at c3 hE hL
      change spE c l ds = 10 at hE
      change spL c l ds = [] at hL
      rw [hE, hL]
      have C1 := Lib.hid c1
      have C3 := Lib.hid c3
      clear c1 c3 hx hy hv hE hL hn hr
      go_enter Try.func37, Try.ntmps37
      go_wp2_with fail
      refine (C1.out _ (by repeat (first | exact Below.refl _ _ | assumption | refine Below.setCell ?_ (by first | (simp; done) | (simp; omega) | omega) _ | refine Below.drew ?_ | refine below_drewN ?_ _ | refine Below.alloc ?_ (by first | (simp; done) | (simp; omega) | omega) _ | refine below_alloc ?_ _ | refine below_step ?_ (by assumption)))).mono ?_
      rintro e w1 ⟨rfl, hb⟩
      have hB_w1 : Below w.heap.size w w1 := (by repeat (first | exact Below.refl _ _ | assumption | refine Below.setCell ?_ (by first | (simp; done) | (simp; omega) | omega) _ | refine Below.drew ?_ | refine below_drewN ?_ _ | refine Below.alloc ?_ (by first | (simp; done) | (simp; omega) | omega) _ | refine below_alloc ?_ _ | refine below_step ?_ (by assumption))); have hz_w1 := hB_w1.size; have hsw10 : w.heap.size < w1.heap.size := Nat.lt_of_lt_of_le (by first | (simp; done) | (simp; omega) | omega) hb.size; have hnw10 : ¬ w.heap.size = w1.heap.size := (by omega); have hmw10 : ¬ w1.heap.size = w.heap.size := (by omega); have hlw10_0 : w.heap.size ≤ w1.heap.size := (by omega); have hlw10_1 : w.heap.size ≤ w1.heap.size + 1 := (by omega); have hlw10_2 : w.heap.size ≤ w1.heap.size + 1 + 1 := (by omega); have hkw10 : w1.cell? ⟨w.heap.size, 0, none⟩ = some (.int .i64 c.fi) := (by rw [hb.cell (p := ⟨w.heap.size, 0, none⟩) (by first | (simp; done) | (simp; omega) | omega)]; first | (go_simp; done) | assumption); have hkw11 : w1.cell? ⟨w.heap.size, 1, none⟩ = some (.int .i64 c.ga) := (by rw [hb.cell (p := ⟨w.heap.size, 1, none⟩) (by first | (simp; done) | (simp; omega) | omega)]; first | (go_simp; done) | assumption); have hkw12 : w1.cell? ⟨w.heap.size, 2, none⟩ = some (.int .i64 c.to) := (by rw [hb.cell (p := ⟨w.heap.size, 2, none⟩) (by first | (simp; done) | (simp; omega) | omega)]; first | (go_simp; done) | assumption); have hkw13 : w1.cell? ⟨w.heap.size, 3, none⟩ = some (.int .i64 c.le) := (by rw [hb.cell (p := ⟨w.heap.size, 3, none⟩) (by first | (simp; done) | (simp; omega) | omega)]; first | (go_simp; done) | assumption); have hkw14 : w1.cell? ⟨w.heap.size, 4, none⟩ = some (.int .i64 c.la) := (by rw [hb.cell (p := ⟨w.heap.size, 4, none⟩) (by first | (simp; done) | (simp; omega) | omega)]; first | (go_simp; done) | assumption); have hkw15 : w1.cell? ⟨w.heap.size, 5, none⟩ = some (.int .i64 c.st) := (by rw [hb.cell (p := ⟨w.heap.size, 5, none⟩) (by first | (simp; done) | (simp; omega) | omega)]; first | (go_simp; done) | assumption); clear hb
      go_wp2_with fail
      refine (C3.out _ (by repeat (first | exact Below.refl _ _ | assumption | refine Below.setCell ?_ (by first | (simp; done) | (simp; omega) | omega) _ | refine Below.drew ?_ | refine below_drewN ?_ _ | refine Below.alloc ?_ (by first | (simp; done) | (simp; omega) | omega) _ | refine below_alloc ?_ _ | refine below_step ?_ (by assumption)))).mono ?_
      rintro e w2 ⟨rfl, hb⟩
      have hB_w2 : Below w.heap.size w w2 := (by repeat (first | exact Below.refl _ _ | assumption | refine Below.setCell ?_ (by first | (simp; done) | (simp; omega) | omega) _ | refine Below.drew ?_ | refine below_drewN ?_ _ | refine Below.alloc ?_ (by first | (simp; done) | (simp; omega) | omega) _ | refine below_alloc ?_ _ | refine below_step ?_ (by assumption))); have hz_w2 := hB_w2.size; clear hb hB_w1 hlw10_0 hlw10_1 hlw10_2 hkw10 hkw11 hkw12 hkw13 hkw14 hkw15
      go_wp2
      go_ret2
      exact ⟨⟨_, rfl, World.ownsRow_nil _ _ _ _⟩, (by repeat (first | exact Below.refl _ _ | assumption | refine Below.setCell ?_ (by first | (simp; done) | (simp; omega) | omega) _ | refine Below.drew ?_ | refine below_drewN ?_ _ | refine Below.alloc ?_ (by first | (simp; done) | (simp; omega) | omega) _ | refine below_alloc ?_ _ | refine below_step ?_ (by assumption)))⟩
    · have c4 := fun W (h : Below w.heap.size w W) (h0 : 0 < n) => cloneI_any A' n cap' ds W h0 hm' ((hy.below h).more h.size)
      have c5 := fun g k i base W (h : World.ownsRow W base 3 1 (.slice (some ⟨g, 0, none⟩) n k) n (icells ds)) (hi : i < n) => deleteI_any g n k base i 3 ds W h hm' hi
      have c6 := fun i g k W (h : Below w.heap.size w W) (hz : Ints W W.heap.size (some ⟨g, 0, none⟩) (n - 1) (wout ds i)) => Right_any c A len cap l (some ⟨g, 0, none⟩) (n - 1) k (wout ds i) W hm (by omega) ((hx.below h).more h.size) hz
      rw [hv] at c1 hE
      rw [hr] at c3 hE hL
      change spE c l ds = 0 at hE
      change spL c l ds = spI c l ds n at hL
      rw [hE, hL]
      obtain ⟨i0, hi, hz0, hz1, hz2⟩ := info_parts info_int
      have hI0 := Lib.hid hi
      have hI1 := Lib.hid hz0
      have hI2 := Lib.hid hz1
      have hI3 := Lib.hid hz2
      have C1 := Lib.hid c1
      have C3 := Lib.hid c3
      have C4 := Lib.hid c4
      have C5 := Lib.hid c5
      have C6 := Lib.hid c6
      clear c1 c3 c4 c5 c6 hx hy hv hE hL hn hr hi hz0 hz1 hz2
      go_enter Try.func37, Try.ntmps37
      go_wp2_with fail
      refine (C1.out _ (by repeat (first | exact Below.refl _ _ | assumption | refine Below.setCell ?_ (by first | (simp; done) | (simp; omega) | omega) _ | refine Below.drew ?_ | refine below_drewN ?_ _ | refine Below.alloc ?_ (by first | (simp; done) | (simp; omega) | omega) _ | refine below_alloc ?_ _ | refine below_step ?_ (by assumption)))).mono ?_
      rintro e w1 ⟨rfl, hb⟩
      have hB_w1 : Below w.heap.size w w1 := (by repeat (first | exact Below.refl _ _ | assumption | refine Below.setCell ?_ (by first | (simp; done) | (simp; omega) | omega) _ | refine Below.drew ?_ | refine below_drewN ?_ _ | refine Below.alloc ?_ (by first | (simp; done) | (simp; omega) | omega) _ | refine below_alloc ?_ _ | refine below_step ?_ (by assumption))); have hz_w1 := hB_w1.size; have hsw10 : w.heap.size < w1.heap.size := Nat.lt_of_lt_of_le (by first | (simp; done) | (simp; omega) | omega) hb.size; have hnw10 : ¬ w.heap.size = w1.heap.size := (by omega); have hmw10 : ¬ w1.heap.size = w.heap.size := (by omega); have hlw10_0 : w.heap.size ≤ w1.heap.size := (by omega); have hlw10_1 : w.heap.size ≤ w1.heap.size + 1 := (by omega); have hlw10_2 : w.heap.size ≤ w1.heap.size + 1 + 1 := (by omega); have hkw10 : w1.cell? ⟨w.heap.size, 0, none⟩ = some (.int .i64 c.fi) := (by rw [hb.cell (p := ⟨w.heap.size, 0, none⟩) (by first | (simp; done) | (simp; omega) | omega)]; first | (go_simp; done) | assumption); have hkw11 : w1.cell? ⟨w.heap.size, 1, none⟩ = some (.int .i64 c.ga) := (by rw [hb.cell (p := ⟨w.heap.size, 1, none⟩) (by first | (simp; done) | (simp; omega) | omega)]; first | (go_simp; done) | assumption); have hkw12 : w1.cell? ⟨w.heap.size, 2, none⟩ = some (.int .i64 c.to) := (by rw [hb.cell (p := ⟨w.heap.size, 2, none⟩) (by first | (simp; done) | (simp; omega) | omega)]; first | (go_simp; done) | assumption); have hkw13 : w1.cell? ⟨w.heap.size, 3, none⟩ = some (.int .i64 c.le) := (by rw [hb.cell (p := ⟨w.heap.size, 3, none⟩) (by first | (simp; done) | (simp; omega) | omega)]; first | (go_simp; done) | assumption); have hkw14 : w1.cell? ⟨w.heap.size, 4, none⟩ = some (.int .i64 c.la) := (by rw [hb.cell (p := ⟨w.heap.size, 4, none⟩) (by first | (simp; done) | (simp; omega) | omega)]; first | (go_simp; done) | assumption); have hkw15 : w1.cell? ⟨w.heap.size, 5, none⟩ = some (.int .i64 c.st) := (by rw [hb.cell (p := ⟨w.heap.size, 5, none⟩) (by first | (simp; done) | (simp; omega) | omega)]; first | (go_simp; done) | assumption); clear hb
      go_wp2_with fail
      refine (C3.out _ (by repeat (first | exact Below.refl _ _ | assumption | refine Below.setCell ?_ (by first | (simp; done) | (simp; omega) | omega) _ | refine Below.drew ?_ | refine below_drewN ?_ _ | refine Below.alloc ?_ (by first | (simp; done) | (simp; omega) | omega) _ | refine below_alloc ?_ _ | refine below_step ?_ (by assumption)))).mono ?_
      rintro e w2 ⟨rfl, hb⟩
      have hB_w2 : Below w.heap.size w w2 := (by repeat (first | exact Below.refl _ _ | assumption | refine Below.setCell ?_ (by first | (simp; done) | (simp; omega) | omega) _ | refine Below.drew ?_ | refine below_drewN ?_ _ | refine Below.alloc ?_ (by first | (simp; done) | (simp; omega) | omega) _ | refine below_alloc ?_ _ | refine below_step ?_ (by assumption))); have hz_w2 := hB_w2.size; have hsw20 : w.heap.size < w2.heap.size := Nat.lt_of_lt_of_le (by first | (simp; done) | (simp; omega) | omega) hb.size; have hnw20 : ¬ w.heap.size = w2.heap.size := (by omega); have hmw20 : ¬ w2.heap.size = w.heap.size := (by omega); have hlw20_0 : w.heap.size ≤ w2.heap.size := (by omega); have hlw20_1 : w.heap.size ≤ w2.heap.size + 1 := (by omega); have hlw20_2 : w.heap.size ≤ w2.heap.size + 1 + 1 := (by omega); have hkw20 : w2.cell? ⟨w.heap.size, 0, none⟩ = some (.int .i64 c.fi) := (by rw [hb.cell (p := ⟨w.heap.size, 0, none⟩) (by first | (simp; done) | (simp; omega) | omega)]; first | (go_simp; done) | assumption); have hkw21 : w2.cell? ⟨w.heap.size, 1, none⟩ = some (.int .i64 c.ga) := (by rw [hb.cell (p := ⟨w.heap.size, 1, none⟩) (by first | (simp; done) | (simp; omega) | omega)]; first | (go_simp; done) | assumption); have hkw22 : w2.cell? ⟨w.heap.size, 2, none⟩ = some (.int .i64 c.to) := (by rw [hb.cell (p := ⟨w.heap.size, 2, none⟩) (by first | (simp; done) | (simp; omega) | omega)]; first | (go_simp; done) | assumption); have hkw23 : w2.cell? ⟨w.heap.size, 3, none⟩ = some (.int .i64 c.le) := (by rw [hb.cell (p := ⟨w.heap.size, 3, none⟩) (by first | (simp; done) | (simp; omega) | omega)]; first | (go_simp; done) | assumption); have hkw24 : w2.cell? ⟨w.heap.size, 4, none⟩ = some (.int .i64 c.la) := (by rw [hb.cell (p := ⟨w.heap.size, 4, none⟩) (by first | (simp; done) | (simp; omega) | omega)]; first | (go_simp; done) | assumption); have hkw25 : w2.cell? ⟨w.heap.size, 5, none⟩ = some (.int .i64 c.st) := (by rw [hb.cell (p := ⟨w.heap.size, 5, none⟩) (by first | (simp; done) | (simp; omega) | omega)]; first | (go_simp; done) | assumption); clear hb hB_w1 hlw10_0 hlw10_1 hlw10_2 hkw10 hkw11 hkw12 hkw13 hkw14 hkw15
      go_wp2
      go_loopw [8, 23] (fun v i wr => SpR w2 n (spI c l ds) v i wr) (fun _ i _ => n - (intOf i).toNat)
      case atStart => exact SpR.mk 0 (Nat.zero_le _) rfl (by exact World.ownsRow_nil w2 _ _ _) (Below.refl _ _)
      case round =>
        obtain ⟨r, hr, rfl, hown, hb⟩ := hrel
        have hb3 := hb
        have hs3 := hb.size
        have hB_wr : Below w.heap.size w wr := (by repeat (first | exact Below.refl _ _ | assumption | refine Below.setCell ?_ (by first | (simp; done) | (simp; omega) | omega) _ | refine Below.drew ?_ | refine below_drewN ?_ _ | refine Below.alloc ?_ (by first | (simp; done) | (simp; omega) | omega) _ | refine below_alloc ?_ _ | refine below_step ?_ (by assumption))); have hz_wr := hB_wr.size; have hswr0 : w.heap.size < wr.heap.size := Nat.lt_of_lt_of_le (by first | (simp; done) | (simp; omega) | omega) hb.size; have hnwr0 : ¬ w.heap.size = wr.heap.size := (by omega); have hmwr0 : ¬ wr.heap.size = w.heap.size := (by omega); have hlwr0_0 : w.heap.size ≤ wr.heap.size := (by omega); have hlwr0_1 : w.heap.size ≤ wr.heap.size + 1 := (by omega); have hlwr0_2 : w.heap.size ≤ wr.heap.size + 1 + 1 := (by omega); have hkwr0 : wr.cell? ⟨w.heap.size, 0, none⟩ = some (.int .i64 c.fi) := (by rw [hb.cell (p := ⟨w.heap.size, 0, none⟩) (by first | (simp; done) | (simp; omega) | omega)]; first | (go_simp; done) | assumption); have hkwr1 : wr.cell? ⟨w.heap.size, 1, none⟩ = some (.int .i64 c.ga) := (by rw [hb.cell (p := ⟨w.heap.size, 1, none⟩) (by first | (simp; done) | (simp; omega) | omega)]; first | (go_simp; done) | assumption); have hkwr2 : wr.cell? ⟨w.heap.size, 2, none⟩ = some (.int .i64 c.to) := (by rw [hb.cell (p := ⟨w.heap.size, 2, none⟩) (by first | (simp; done) | (simp; omega) | omega)]; first | (go_simp; done) | assumption); have hkwr3 : wr.cell? ⟨w.heap.size, 3, none⟩ = some (.int .i64 c.le) := (by rw [hb.cell (p := ⟨w.heap.size, 3, none⟩) (by first | (simp; done) | (simp; omega) | omega)]; first | (go_simp; done) | assumption); have hkwr4 : wr.cell? ⟨w.heap.size, 4, none⟩ = some (.int .i64 c.la) := (by rw [hb.cell (p := ⟨w.heap.size, 4, none⟩) (by first | (simp; done) | (simp; omega) | omega)]; first | (go_simp; done) | assumption); have hkwr5 : wr.cell? ⟨w.heap.size, 5, none⟩ = some (.int .i64 c.st) := (by rw [hb.cell (p := ⟨w.heap.size, 5, none⟩) (by first | (simp; done) | (simp; omega) | omega)]; first | (go_simp; done) | assumption); clear hb hB_w2 hlw20_0 hlw20_1 hlw20_2 hkw20 hkw21 hkw22 hkw23 hkw24 hkw25
        obtain ⟨A1, cap1, rfl, hn1, hn2, -, -⟩ := own_ints hown
        have HO := Lib.hid hown
        have hLen := spI_len c l ds r
        clear hown
        by_cases hrn : r < n
        · have hy := spI_yes (c := c) (l := l) (ds := ds) (k := r)
          have hno := spI_no (c := c) (l := l) (ds := ds) (k := r)
          have hsp : spX c l ds r = rightB c l (wout ds r) := rfl
          have hr1 : (r : Int) < n := by omega
          have hr2 : ¬ n ≤ r := by omega
          have hbd : Below wr.heap.size wr wr.drew := (Below.refl _ _).drew
          have hwr : IntKind.i64.wrap ((r : Int) + 1) = (r : Int) + 1 := IntWalk.i64_in _ (by omega)
          have c7 := C6.out r
          have hc5 := fun g k base W h => C5.out g k r base W h hrn
          have C8 := Lib.hid hc5
          clear hc5
          cases hq : rightB c l (wout ds r)
          · rw [hq] at c7 hsp
            have HNX := Lib.hid (hno hsp)
            have C7 := Lib.hid c7
            clear c7 hy hno hsp hq
            go_wp2
            go_region_with (first | (go_at_call 64; refine (C4.out _ (by repeat (first | exact Below.refl _ _ | assumption | refine Below.setCell ?_ (by first | (simp; done) | (simp; omega) | omega) _ | refine Below.drew ?_ | refine below_drewN ?_ _ | refine Below.alloc ?_ (by first | (simp; done) | (simp; omega) | omega) _ | refine below_alloc ?_ _ | refine below_step ?_ (by assumption))) (by omega)).mono ?_; rintro e w5 ⟨⟨v5, rfl, ho5⟩, hb⟩; have hbr5 := hbd.trans (hb.mono (by simp)); obtain ⟨A5, k5, rfl, hm5, hm6, hR5, hg5⟩ := own_ints ho5; obtain ⟨g5, rfl, -, -, -⟩ := hg5 (by omega); have HO5 := Lib.hid ho5; clear ho5 hR5; have hB_w5 : Below w.heap.size w w5 := (by repeat (first | exact Below.refl _ _ | assumption | refine Below.setCell ?_ (by first | (simp; done) | (simp; omega) | omega) _ | refine Below.drew ?_ | refine below_drewN ?_ _ | refine Below.alloc ?_ (by first | (simp; done) | (simp; omega) | omega) _ | refine below_alloc ?_ _ | refine below_step ?_ (by assumption))); have hz_w5 := hB_w5.size; have hsw50 : w.heap.size < w5.heap.size := Nat.lt_of_lt_of_le (by first | (simp; done) | (simp; omega) | omega) hb.size; have hnw50 : ¬ w.heap.size = w5.heap.size := (by omega); have hmw50 : ¬ w5.heap.size = w.heap.size := (by omega); have hlw50_0 : w.heap.size ≤ w5.heap.size := (by omega); have hlw50_1 : w.heap.size ≤ w5.heap.size + 1 := (by omega); have hlw50_2 : w.heap.size ≤ w5.heap.size + 1 + 1 := (by omega); have hkw50 : w5.cell? ⟨w.heap.size, 0, none⟩ = some (.int .i64 c.fi) := (by rw [hb.cell (p := ⟨w.heap.size, 0, none⟩) (by first | (simp; done) | (simp; omega) | omega)]; first | (go_simp; done) | assumption); have hkw51 : w5.cell? ⟨w.heap.size, 1, none⟩ = some (.int .i64 c.ga) := (by rw [hb.cell (p := ⟨w.heap.size, 1, none⟩) (by first | (simp; done) | (simp; omega) | omega)]; first | (go_simp; done) | assumption); have hkw52 : w5.cell? ⟨w.heap.size, 2, none⟩ = some (.int .i64 c.to) := (by rw [hb.cell (p := ⟨w.heap.size, 2, none⟩) (by first | (simp; done) | (simp; omega) | omega)]; first | (go_simp; done) | assumption); have hkw53 : w5.cell? ⟨w.heap.size, 3, none⟩ = some (.int .i64 c.le) := (by rw [hb.cell (p := ⟨w.heap.size, 3, none⟩) (by first | (simp; done) | (simp; omega) | omega)]; first | (go_simp; done) | assumption); have hkw54 : w5.cell? ⟨w.heap.size, 4, none⟩ = some (.int .i64 c.la) := (by rw [hb.cell (p := ⟨w.heap.size, 4, none⟩) (by first | (simp; done) | (simp; omega) | omega)]; first | (go_simp; done) | assumption); have hkw55 : w5.cell? ⟨w.heap.size, 5, none⟩ = some (.int .i64 c.st) := (by rw [hb.cell (p := ⟨w.heap.size, 5, none⟩) (by first | (simp; done) | (simp; omega) | omega)]; first | (go_simp; done) | assumption); clear hb) | (go_at_call 63; refine (C8.out g5 k5 _ _ HO5.out).mono ?_; rintro e w6 ⟨rfl, hI6, hb⟩; have hbr6 := hbr5.trans (hb.mono (by simp)); have HI6 := Lib.hid hI6; clear hI6 hb; have hb := hbr6; have hB_w6 : Below w.heap.size w w6 := (by repeat (first | exact Below.refl _ _ | assumption | refine Below.setCell ?_ (by first | (simp; done) | (simp; omega) | omega) _ | refine Below.drew ?_ | refine below_drewN ?_ _ | refine Below.alloc ?_ (by first | (simp; done) | (simp; omega) | omega) _ | refine below_alloc ?_ _ | refine below_step ?_ (by assumption))); have hz_w6 := hB_w6.size; have hsw60 : w.heap.size < w6.heap.size := Nat.lt_of_lt_of_le (by first | (simp; done) | (simp; omega) | omega) hb.size; have hnw60 : ¬ w.heap.size = w6.heap.size := (by omega); have hmw60 : ¬ w6.heap.size = w.heap.size := (by omega); have hlw60_0 : w.heap.size ≤ w6.heap.size := (by omega); have hlw60_1 : w.heap.size ≤ w6.heap.size + 1 := (by omega); have hlw60_2 : w.heap.size ≤ w6.heap.size + 1 + 1 := (by omega); have hkw60 : w6.cell? ⟨w.heap.size, 0, none⟩ = some (.int .i64 c.fi) := (by rw [hb.cell (p := ⟨w.heap.size, 0, none⟩) (by first | (simp; done) | (simp; omega) | omega)]; first | (go_simp; done) | assumption); have hkw61 : w6.cell? ⟨w.heap.size, 1, none⟩ = some (.int .i64 c.ga) := (by rw [hb.cell (p := ⟨w.heap.size, 1, none⟩) (by first | (simp; done) | (simp; omega) | omega)]; first | (go_simp; done) | assumption); have hkw62 : w6.cell? ⟨w.heap.size, 2, none⟩ = some (.int .i64 c.to) := (by rw [hb.cell (p := ⟨w.heap.size, 2, none⟩) (by first | (simp; done) | (simp; omega) | omega)]; first | (go_simp; done) | assumption); have hkw63 : w6.cell? ⟨w.heap.size, 3, none⟩ = some (.int .i64 c.le) := (by rw [hb.cell (p := ⟨w.heap.size, 3, none⟩) (by first | (simp; done) | (simp; omega) | omega)]; first | (go_simp; done) | assumption); have hkw64 : w6.cell? ⟨w.heap.size, 4, none⟩ = some (.int .i64 c.la) := (by rw [hb.cell (p := ⟨w.heap.size, 4, none⟩) (by first | (simp; done) | (simp; omega) | omega)]; first | (go_simp; done) | assumption); have hkw65 : w6.cell? ⟨w.heap.size, 5, none⟩ = some (.int .i64 c.st) := (by rw [hb.cell (p := ⟨w.heap.size, 5, none⟩) (by first | (simp; done) | (simp; omega) | omega)]; first | (go_simp; done) | assumption); clear hb hB_w5 hlw50_0 hlw50_1 hlw50_2 hkw50 hkw51 hkw52 hkw53 hkw54 hkw55) | (go_at_call 12; refine (C7.out g5 k5 _ (by repeat (first | exact Below.refl _ _ | assumption | refine Below.setCell ?_ (by first | (simp; done) | (simp; omega) | omega) _ | refine Below.drew ?_ | refine below_drewN ?_ _ | refine Below.alloc ?_ (by first | (simp; done) | (simp; omega) | omega) _ | refine below_alloc ?_ _ | refine below_step ?_ (by assumption))) HI6.out).mono ?_; rintro e w7 ⟨rfl, hb⟩; have hbr7 := hbr6.trans (hb.mono hbr6.size); have HO7 := Lib.hid (own_later HO.out hbr7); have hB_w7 := hB_wr.trans (hbr7.mono hz_wr); have hb37 := hb3.trans (hbr7.mono hb3.size)))
            all_goals
              go_wp2
              go_roundw
              case rel => exact SpR.mk (r + 1) (by omega) (by go_num) (by rw [HNX.out]; exact HO7.out) hb37
              case measure => simp [intOf]; omega
          · rw [hq] at c7 hsp
            have HNX := Lib.hid (hy hsp)
            have C7 := Lib.hid c7
            clear c7 hy hno hsp hq
            go_wp2
            go_region_with (first | (go_at_call 64; refine (C4.out _ (by repeat (first | exact Below.refl _ _ | assumption | refine Below.setCell ?_ (by first | (simp; done) | (simp; omega) | omega) _ | refine Below.drew ?_ | refine below_drewN ?_ _ | refine Below.alloc ?_ (by first | (simp; done) | (simp; omega) | omega) _ | refine below_alloc ?_ _ | refine below_step ?_ (by assumption))) (by omega)).mono ?_; rintro e w5 ⟨⟨v5, rfl, ho5⟩, hb⟩; have hbr5 := hbd.trans (hb.mono (by simp)); obtain ⟨A5, k5, rfl, hm5, hm6, hR5, hg5⟩ := own_ints ho5; obtain ⟨g5, rfl, -, -, -⟩ := hg5 (by omega); have HO5 := Lib.hid ho5; clear ho5 hR5; have hB_w5 : Below w.heap.size w w5 := (by repeat (first | exact Below.refl _ _ | assumption | refine Below.setCell ?_ (by first | (simp; done) | (simp; omega) | omega) _ | refine Below.drew ?_ | refine below_drewN ?_ _ | refine Below.alloc ?_ (by first | (simp; done) | (simp; omega) | omega) _ | refine below_alloc ?_ _ | refine below_step ?_ (by assumption))); have hz_w5 := hB_w5.size; have hsw50 : w.heap.size < w5.heap.size := Nat.lt_of_lt_of_le (by first | (simp; done) | (simp; omega) | omega) hb.size; have hnw50 : ¬ w.heap.size = w5.heap.size := (by omega); have hmw50 : ¬ w5.heap.size = w.heap.size := (by omega); have hlw50_0 : w.heap.size ≤ w5.heap.size := (by omega); have hlw50_1 : w.heap.size ≤ w5.heap.size + 1 := (by omega); have hlw50_2 : w.heap.size ≤ w5.heap.size + 1 + 1 := (by omega); have hkw50 : w5.cell? ⟨w.heap.size, 0, none⟩ = some (.int .i64 c.fi) := (by rw [hb.cell (p := ⟨w.heap.size, 0, none⟩) (by first | (simp; done) | (simp; omega) | omega)]; first | (go_simp; done) | assumption); have hkw51 : w5.cell? ⟨w.heap.size, 1, none⟩ = some (.int .i64 c.ga) := (by rw [hb.cell (p := ⟨w.heap.size, 1, none⟩) (by first | (simp; done) | (simp; omega) | omega)]; first | (go_simp; done) | assumption); have hkw52 : w5.cell? ⟨w.heap.size, 2, none⟩ = some (.int .i64 c.to) := (by rw [hb.cell (p := ⟨w.heap.size, 2, none⟩) (by first | (simp; done) | (simp; omega) | omega)]; first | (go_simp; done) | assumption); have hkw53 : w5.cell? ⟨w.heap.size, 3, none⟩ = some (.int .i64 c.le) := (by rw [hb.cell (p := ⟨w.heap.size, 3, none⟩) (by first | (simp; done) | (simp; omega) | omega)]; first | (go_simp; done) | assumption); have hkw54 : w5.cell? ⟨w.heap.size, 4, none⟩ = some (.int .i64 c.la) := (by rw [hb.cell (p := ⟨w.heap.size, 4, none⟩) (by first | (simp; done) | (simp; omega) | omega)]; first | (go_simp; done) | assumption); have hkw55 : w5.cell? ⟨w.heap.size, 5, none⟩ = some (.int .i64 c.st) := (by rw [hb.cell (p := ⟨w.heap.size, 5, none⟩) (by first | (simp; done) | (simp; omega) | omega)]; first | (go_simp; done) | assumption); clear hb) | (go_at_call 63; refine (C8.out g5 k5 _ _ HO5.out).mono ?_; rintro e w6 ⟨rfl, hI6, hb⟩; have hbr6 := hbr5.trans (hb.mono (by simp)); have HI6 := Lib.hid hI6; clear hI6 hb; have hb := hbr6; have hB_w6 : Below w.heap.size w w6 := (by repeat (first | exact Below.refl _ _ | assumption | refine Below.setCell ?_ (by first | (simp; done) | (simp; omega) | omega) _ | refine Below.drew ?_ | refine below_drewN ?_ _ | refine Below.alloc ?_ (by first | (simp; done) | (simp; omega) | omega) _ | refine below_alloc ?_ _ | refine below_step ?_ (by assumption))); have hz_w6 := hB_w6.size; have hsw60 : w.heap.size < w6.heap.size := Nat.lt_of_lt_of_le (by first | (simp; done) | (simp; omega) | omega) hb.size; have hnw60 : ¬ w.heap.size = w6.heap.size := (by omega); have hmw60 : ¬ w6.heap.size = w.heap.size := (by omega); have hlw60_0 : w.heap.size ≤ w6.heap.size := (by omega); have hlw60_1 : w.heap.size ≤ w6.heap.size + 1 := (by omega); have hlw60_2 : w.heap.size ≤ w6.heap.size + 1 + 1 := (by omega); have hkw60 : w6.cell? ⟨w.heap.size, 0, none⟩ = some (.int .i64 c.fi) := (by rw [hb.cell (p := ⟨w.heap.size, 0, none⟩) (by first | (simp; done) | (simp; omega) | omega)]; first | (go_simp; done) | assumption); have hkw61 : w6.cell? ⟨w.heap.size, 1, none⟩ = some (.int .i64 c.ga) := (by rw [hb.cell (p := ⟨w.heap.size, 1, none⟩) (by first | (simp; done) | (simp; omega) | omega)]; first | (go_simp; done) | assumption); have hkw62 : w6.cell? ⟨w.heap.size, 2, none⟩ = some (.int .i64 c.to) := (by rw [hb.cell (p := ⟨w.heap.size, 2, none⟩) (by first | (simp; done) | (simp; omega) | omega)]; first | (go_simp; done) | assumption); have hkw63 : w6.cell? ⟨w.heap.size, 3, none⟩ = some (.int .i64 c.le) := (by rw [hb.cell (p := ⟨w.heap.size, 3, none⟩) (by first | (simp; done) | (simp; omega) | omega)]; first | (go_simp; done) | assumption); have hkw64 : w6.cell? ⟨w.heap.size, 4, none⟩ = some (.int .i64 c.la) := (by rw [hb.cell (p := ⟨w.heap.size, 4, none⟩) (by first | (simp; done) | (simp; omega) | omega)]; first | (go_simp; done) | assumption); have hkw65 : w6.cell? ⟨w.heap.size, 5, none⟩ = some (.int .i64 c.st) := (by rw [hb.cell (p := ⟨w.heap.size, 5, none⟩) (by first | (simp; done) | (simp; omega) | omega)]; first | (go_simp; done) | assumption); clear hb hB_w5 hlw50_0 hlw50_1 hlw50_2 hkw50 hkw51 hkw52 hkw53 hkw54 hkw55) | (go_at_call 12; refine (C7.out g5 k5 _ (by repeat (first | exact Below.refl _ _ | assumption | refine Below.setCell ?_ (by first | (simp; done) | (simp; omega) | omega) _ | refine Below.drew ?_ | refine below_drewN ?_ _ | refine Below.alloc ?_ (by first | (simp; done) | (simp; omega) | omega) _ | refine below_alloc ?_ _ | refine below_step ?_ (by assumption))) HI6.out).mono ?_; rintro e w7 ⟨rfl, hb⟩; have hbr7 := hbr6.trans (hb.mono hbr6.size); have HO7 := Lib.hid (own_later HO.out hbr7); have hB_w7 := hB_wr.trans (hbr7.mono hz_wr); have hb37 := hb3.trans (hbr7.mono hb3.size)))
            all_goals
              have hs37 := hb37.size
              go_wp2_with (at_builtin; go_loud (refine wpList_append_own _ rfl (.tmp 35) (.tmp 37) 25 rfl w2.heap.size 3 i0 (.int .i64 0) 1 8 Try.underlying25 hI0.out hI1.out hI2.out hI3.out rfl (by decide) _ _ _ rfl (HO7.out.alloc _) ⟨w7.heap.size, 0, none⟩ 1 1 [.int .i64 (r : Int)] rfl rfl (news1 _ _ _) (one1 _) (by unfold maxLen; omega) (by omega) (by simp; omega) ?_))
              intro v' w8 hown' hgrow _
              have hb8 : Below w2.heap.size w2 w8 := (below_alloc hb37 _).trans (grown_below hgrow (by simp; omega) (fun q hq => (HO7.out.lt q hq).1))
              have HO8 : Hid (w8.ownsRow w2.heap.size 3 1 v' (spI c l ds r ++ [(r : Int)]).length (icells (spI c l ds r ++ [(r : Int)]))) := by
                rw [List.length_append, icells_app]; exact hown'
              clear hown' hgrow
              go_wp2
              go_roundw
              case rel => exact SpR.mk (r + 1) (by omega) (by go_num) (by rw [HNX.out]; exact HO8.out) hb8
              case measure => simp [intOf]; omega
        · have hrn' : r = n := by omega
          have hO2 : wr.ownsRow w.heap.size 3 1 (.slice A1 (spI c l ds r).length cap1) (spI c l ds n).length (icells (spI c l ds n)) := by
            have h := own_mono HO.out hz_w2
            rw [← hrn']; exact h
          have HO2 := Lib.hid hO2
          clear hO2 hrn'
          go_wp2
          go_ret2
          exact ⟨⟨_, rfl, HO2.out⟩, hB_wr⟩
end Go.Proofs.Ytecocbohaggokaa
