/- Tapes: the reference's Without; Added of both. -/
import Derived.Test.YtcpnipnaidihaaaRefB
set_option linter.unusedSimpArgs false
set_option linter.unusedVariables false
namespace Go.Proofs.Ytcpnipnaidihaaa
open Go.RowKit
attribute [local go_sem] Later.cell Same.cell

/-- Block b holds just these cells. -/
def Bk (W : World) (b : Nat) (c : Array Value) (t : TypeId) : Prop := W.heap[b]? = some (.cells c t (0, 0))
theorem Bk.new (W : World) (c : Array Value) (t : TypeId) : Bk (W.alloc (.cells c t)) W.heap.size c t := by
  show (W.heap.push _)[W.heap.size]? = _
  simp
theorem Bk.lt {W : World} {b : Nat} {c : Array Value} {t : TypeId} (h : Bk W b c t) : b < W.heap.size := (Array.getElem?_eq_some_iff.1 h).1
theorem Bk.later {W W' : World} {b : Nat} {c : Array Value} {t : TypeId} (h : Bk W b c t) (hb : Below W.heap.size W W') : Bk W' b c t := (hb.block b h.lt).trans h
theorem Bk.grown {W W' : World} {b : Nat} {c : Array Value} {t : TypeId} {row : Option Nat} (h : Bk W b c t) (hg : W.grownBy W' row) (hr : row ≠ some b) : Bk W' b c t := (hg.block b h.lt (fun e => hr e.symm)).trans h
theorem Bk.cell {W : World} {b : Nat} {c : Array Value} {t : TypeId} (h : Bk W b c t) (o : Nat) : W.cell? ⟨b, o, none⟩ = c[o]? ∧ W.frozen? ⟨b, o, none⟩ = false := by
  unfold Bk at h
  exact ⟨by simp [World.cell?, h], by simp [World.frozen?, h]⟩
theorem Bk.news {W : World} {b : Nat} {ty : TypeId} {t : Tp} (h : Bk W b #[.int .i64 t.1, .int .i64 t.2.1, .int .i64 t.2.2] ty) : ∀ j u, (int3 t)[j]? = some u → W.cell? ((⟨b, 0, none⟩ : Addr).add j) = some u := by
  intro j u hj
  rw [Addr.add_lit, Nat.zero_add, (h.cell j).1, ← hj]
  unfold int3
  simp
set_option maxHeartbeats 2000000 in
theorem rWithout_any (n : Int) (A : Option Addr) (len cap : Nat) (l : List Tp) (i : Int) (w : World) (hcap : len ≤ cap) (hm : len ≤ 9223372036854775807) (hx : Rows 3 int3 (0,0,0) w w.heap.size A len l) :
    Calls Try.prog 42 #[.int .i64 n, .slice A len cap, .int .i64 i] w fun e w' => (∃ v, e = .returned (.tuple #[v, .int .i64 (woE n l i)]) ∧ w'.ownsRow w.heap.size 59 3 v (woL n l i).length (tcells (woL n l i))) ∧ Below w.heap.size w w' := by
  have c1 := fun W (h : Below w.heap.size w W) => rValid_any n A len cap l W hm ((hx.below h).more h.size)
  have hE : woE n l i = if vNet n l then (if withinB i 0 ((l.length : Int) - 1) then 0 else 7) else 1 := rfl
  have hL : woL n l i = if vNet n l then (if withinB i 0 ((l.length : Int) - 1) then l.eraseIdx i.toNat else []) else [] := rfl
  have hn := hx.1
  cases hv : vNet n l
  · rw [hv] at c1 hE hL
    rw [if_neg (by decide)] at hE hL
    rw [hE, hL]
    have C1 := Lib.hid c1
    clear c1 hx hv hE hL hn
    go_enter Try.func42, Try.ntmps42
    go_wp2_with fail
    refine (C1.out _ (by repeat (first | exact Below.refl _ _ | assumption | refine Below.setCell ?_ (by first | (simp; done) | (simp; omega) | omega) _ | refine Below.drew ?_ | refine below_drewN ?_ _ | refine Below.alloc ?_ (by first | (simp; done) | (simp; omega) | omega) _ | refine below_alloc ?_ _ | refine below_step ?_ (by assumption)))).mono ?_
    rintro e w1 ⟨rfl, hb⟩
    have hB_w1 : Below w.heap.size w w1 := (by repeat (first | exact Below.refl _ _ | assumption | refine Below.setCell ?_ (by first | (simp; done) | (simp; omega) | omega) _ | refine Below.drew ?_ | refine below_drewN ?_ _ | refine Below.alloc ?_ (by first | (simp; done) | (simp; omega) | omega) _ | refine below_alloc ?_ _ | refine below_step ?_ (by assumption))); have hz_w1 := hB_w1.size; clear hb
    go_wp2
    go_ret2
    exact ⟨⟨_, rfl, World.ownsRow_nil _ _ _ _⟩, (by repeat (first | exact Below.refl _ _ | assumption | refine Below.setCell ?_ (by first | (simp; done) | (simp; omega) | omega) _ | refine Below.drew ?_ | refine below_drewN ?_ _ | refine Below.alloc ?_ (by first | (simp; done) | (simp; omega) | omega) _ | refine below_alloc ?_ _ | refine below_step ?_ (by assumption)))⟩
  · obtain ⟨hnn, hl, hok⟩ := vNet_spec hv
    rw [hv] at c1 hE hL
    rw [if_pos rfl] at hE hL
    cases hw : withinB i 0 ((l.length : Int) - 1)
    · rw [hw] at hE hL
      rw [if_neg (by decide)] at hE hL
      rw [hE, hL]
      have c2 := fun W => uwithin_any i 0 ((len : Int) - 1) W
      rw [← hn, hw] at c2
      rw [hn] at c2 hl
      have C1 := Lib.hid c1
      have C2 := Lib.hid c2
      clear c1 c2 hx hv hE hL hw
      go_enter Try.func42, Try.ntmps42
      go_wp2_with fail
      refine (C1.out _ (by repeat (first | exact Below.refl _ _ | assumption | refine Below.setCell ?_ (by first | (simp; done) | (simp; omega) | omega) _ | refine Below.drew ?_ | refine below_drewN ?_ _ | refine Below.alloc ?_ (by first | (simp; done) | (simp; omega) | omega) _ | refine below_alloc ?_ _ | refine below_step ?_ (by assumption)))).mono ?_
      rintro e w1 ⟨rfl, hb⟩
      have hB_w1 : Below w.heap.size w w1 := (by repeat (first | exact Below.refl _ _ | assumption | refine Below.setCell ?_ (by first | (simp; done) | (simp; omega) | omega) _ | refine Below.drew ?_ | refine below_drewN ?_ _ | refine Below.alloc ?_ (by first | (simp; done) | (simp; omega) | omega) _ | refine below_alloc ?_ _ | refine below_step ?_ (by assumption))); have hz_w1 := hB_w1.size; clear hb
      go_wp2_with (go_at_call 69; refine (C2.out _).mono ?_; rintro e w' ⟨rfl, rfl⟩)
      go_ret2
      exact ⟨⟨_, rfl, World.ownsRow_nil _ _ _ _⟩, (by repeat (first | exact Below.refl _ _ | assumption | refine Below.setCell ?_ (by first | (simp; done) | (simp; omega) | omega) _ | refine Below.drew ?_ | refine below_drewN ?_ _ | refine Below.alloc ?_ (by first | (simp; done) | (simp; omega) | omega) _ | refine below_alloc ?_ _ | refine below_step ?_ (by assumption)))⟩
    · rw [hw] at hE hL
      rw [if_pos rfl] at hE hL
      rw [hE, hL]
      have hwb := withinB_iff.1 hw
      have c2 := fun W => uwithin_any i 0 ((len : Int) - 1) W
      rw [← hn, hw] at c2
      rw [hn] at c2 hl hwb
      obtain ⟨k, rfl⟩ : ∃ k : Nat, i = k := ⟨i.toNat, by omega⟩
      have c3 := fun W (h : Below w.heap.size w W) => rwithout_any A len cap l k W (by omega) hcap (by omega) ((hx.below h).more h.size)
      rw [Int.toNat_natCast]
      generalize l.eraseIdx k = R at *
      have C1 := Lib.hid c1
      have C2 := Lib.hid c2
      have C3 := Lib.hid c3
      clear c1 c2 c3 hx hv hE hL hw hwb
      go_enter Try.func42, Try.ntmps42
      go_wp2_with fail
      refine (C1.out _ (by repeat (first | exact Below.refl _ _ | assumption | refine Below.setCell ?_ (by first | (simp; done) | (simp; omega) | omega) _ | refine Below.drew ?_ | refine below_drewN ?_ _ | refine Below.alloc ?_ (by first | (simp; done) | (simp; omega) | omega) _ | refine below_alloc ?_ _ | refine below_step ?_ (by assumption)))).mono ?_
      rintro e w1 ⟨rfl, hb⟩
      have hB_w1 : Below w.heap.size w w1 := (by repeat (first | exact Below.refl _ _ | assumption | refine Below.setCell ?_ (by first | (simp; done) | (simp; omega) | omega) _ | refine Below.drew ?_ | refine below_drewN ?_ _ | refine Below.alloc ?_ (by first | (simp; done) | (simp; omega) | omega) _ | refine below_alloc ?_ _ | refine below_step ?_ (by assumption))); have hz_w1 := hB_w1.size; clear hb
      go_wp2_with (go_at_call 69; refine (C2.out _).mono ?_; rintro e w' ⟨rfl, rfl⟩)
      refine (C3.out _ (by repeat (first | exact Below.refl _ _ | assumption | refine Below.setCell ?_ (by first | (simp; done) | (simp; omega) | omega) _ | refine Below.drew ?_ | refine below_drewN ?_ _ | refine Below.alloc ?_ (by first | (simp; done) | (simp; omega) | omega) _ | refine below_alloc ?_ _ | refine below_step ?_ (by assumption)))).mono ?_
      rintro e w2 ⟨⟨v, rfl, ho⟩, hb⟩
      have HO := Lib.hid (town_mono ho hz_w1)
      clear ho
      have hB_w2 : Below w.heap.size w w2 := (by repeat (first | exact Below.refl _ _ | assumption | refine Below.setCell ?_ (by first | (simp; done) | (simp; omega) | omega) _ | refine Below.drew ?_ | refine below_drewN ?_ _ | refine Below.alloc ?_ (by first | (simp; done) | (simp; omega) | omega) _ | refine below_alloc ?_ _ | refine below_step ?_ (by assumption))); have hz_w2 := hB_w2.size; clear hb
      go_wp2
      go_ret2
      exact ⟨⟨v, rfl, HO.out⟩, (by repeat (first | exact Below.refl _ _ | assumption | refine Below.setCell ?_ (by first | (simp; done) | (simp; omega) | omega) _ | refine Below.drew ?_ | refine below_drewN ?_ _ | refine Below.alloc ?_ (by first | (simp; done) | (simp; omega) | omega) _ | refine below_alloc ?_ _ | refine below_step ?_ (by assumption)))⟩

def adE (n : Int) (l : List Tp) (t : Tp) : Int := if vNet n l then (if vT n t then (if l.length = 10 then 4 else 0) else 1) else 1
def adL (n : Int) (l : List Tp) (t : Tp) : List Tp := if adE n l t = 0 then l ++ [t] else []
set_option maxRecDepth 20000 in
set_option maxHeartbeats 4000000 in
theorem Added_any (n : Int) (A : Option Addr) (len cap : Nat) (l : List Tp) (a b o : Int) (w : World) (hm : len ≤ 9223372036854775807) (hx : Rows 3 int3 (0,0,0) w w.heap.size A len l) :
    Calls Try.prog 44 #[.int .i64 n, .slice A len cap, .agg #[.int .i64 a, .int .i64 b, .int .i64 o]] w fun e w' => (∃ v, e = .returned (.tuple #[v, .int .i64 (adE n l (a, b, o))]) ∧ w'.ownsRow w.heap.size 59 3 v (adL n l (a, b, o)).length (tcells (adL n l (a, b, o)))) ∧ Below w.heap.size w w' := by
  have hE : adE n l (a, b, o) = if vNet n l then (if vT n (a, b, o) then (if l.length = 10 then 4 else 0) else 1) else 1 := rfl
  have hL : adL n l (a, b, o) = if adE n l (a, b, o) = 0 then l ++ [(a, b, o)] else [] := rfl
  have c1 := fun W (h : Below w.heap.size w W) => Valid_any n A len cap l W hm ((hx.below h).more h.size)
  have c2 := fun W => sound_any n a b o W
  have hln := hx.1
  cases hv : vNet n l
  · rw [hv, if_neg (by decide)] at hE
    rw [hE, if_neg (by decide)] at hL
    rw [hv] at c1
    rw [hE, hL]
    have C1 := Lib.hid c1
    clear c1 c2 hx hv hE hL hln
    go_enter Try.func44, Try.ntmps44
    go_wp2_with fail
    refine (C1.out _ (by repeat (first | exact Below.refl _ _ | assumption | refine Below.setCell ?_ (by first | (simp; done) | (simp; omega) | omega) _ | refine Below.drew ?_ | refine below_drewN ?_ _ | refine Below.alloc ?_ (by first | (simp; done) | (simp; omega) | omega) _ | refine below_alloc ?_ _ | refine below_step ?_ (by assumption)))).mono ?_
    rintro e w1 ⟨rfl, hb⟩
    have hB_w1 : Below w.heap.size w w1 := (by repeat (first | exact Below.refl _ _ | assumption | refine Below.setCell ?_ (by first | (simp; done) | (simp; omega) | omega) _ | refine Below.drew ?_ | refine below_drewN ?_ _ | refine Below.alloc ?_ (by first | (simp; done) | (simp; omega) | omega) _ | refine below_alloc ?_ _ | refine below_step ?_ (by assumption))); have hz_w1 := hB_w1.size; clear hb
    go_wp2
    go_ret2
    exact ⟨⟨_, rfl, World.ownsRow_nil _ _ _ _⟩, (by repeat (first | exact Below.refl _ _ | assumption | refine Below.setCell ?_ (by first | (simp; done) | (simp; omega) | omega) _ | refine Below.drew ?_ | refine below_drewN ?_ _ | refine Below.alloc ?_ (by first | (simp; done) | (simp; omega) | omega) _ | refine below_alloc ?_ _ | refine below_step ?_ (by assumption)))⟩
  · have hlen := (vNet_spec hv).2.1
    rw [hv, if_pos rfl] at hE
    rw [hv] at c1
    cases ht : vT n (a, b, o)
    · rw [ht, if_neg (by decide)] at hE
      rw [hE, if_neg (by decide)] at hL
      rw [ht] at c2
      rw [hE, hL]
      have C1 := Lib.hid c1
      have C2 := Lib.hid c2
      clear c1 c2 hx hv hE hL hln ht
      go_enter Try.func44, Try.ntmps44
      go_wp2_with fail
      refine (C1.out _ (by repeat (first | exact Below.refl _ _ | assumption | refine Below.setCell ?_ (by first | (simp; done) | (simp; omega) | omega) _ | refine Below.drew ?_ | refine below_drewN ?_ _ | refine Below.alloc ?_ (by first | (simp; done) | (simp; omega) | omega) _ | refine below_alloc ?_ _ | refine below_step ?_ (by assumption)))).mono ?_
      rintro e w1 ⟨rfl, hb⟩
      have hB_w1 : Below w.heap.size w w1 := (by repeat (first | exact Below.refl _ _ | assumption | refine Below.setCell ?_ (by first | (simp; done) | (simp; omega) | omega) _ | refine Below.drew ?_ | refine below_drewN ?_ _ | refine Below.alloc ?_ (by first | (simp; done) | (simp; omega) | omega) _ | refine below_alloc ?_ _ | refine below_step ?_ (by assumption))); have hz_w1 := hB_w1.size; have hsw10 : w.heap.size < w1.heap.size := Nat.lt_of_lt_of_le (by first | (simp; done) | (simp; omega) | omega) hb.size; have hnw10 : ¬ w.heap.size = w1.heap.size := (by omega); have hmw10 : ¬ w1.heap.size = w.heap.size := (by omega); have hlw10_0 : w.heap.size ≤ w1.heap.size := (by omega); have hlw10_1 : w.heap.size ≤ w1.heap.size + 1 := (by omega); have hlw10_2 : w.heap.size ≤ w1.heap.size + 1 + 1 := (by omega); have hkw10 : w1.cell? ⟨w.heap.size, 0, none⟩ = some (.int .i64 a) := (by rw [hb.cell (p := ⟨w.heap.size, 0, none⟩) (by first | (simp; done) | (simp; omega) | omega)]; first | (go_simp; done) | assumption); have hkw11 : w1.cell? ⟨w.heap.size, 1, none⟩ = some (.int .i64 b) := (by rw [hb.cell (p := ⟨w.heap.size, 1, none⟩) (by first | (simp; done) | (simp; omega) | omega)]; first | (go_simp; done) | assumption); have hkw12 : w1.cell? ⟨w.heap.size, 2, none⟩ = some (.int .i64 o) := (by rw [hb.cell (p := ⟨w.heap.size, 2, none⟩) (by first | (simp; done) | (simp; omega) | omega)]; first | (go_simp; done) | assumption); clear hb
      go_wp2_with fail
      refine (C2.out _).mono ?_
      rintro e w2 ⟨rfl, hb⟩
      have hB_w2 : Below w.heap.size w w2 := (by repeat (first | exact Below.refl _ _ | assumption | refine Below.setCell ?_ (by first | (simp; done) | (simp; omega) | omega) _ | refine Below.drew ?_ | refine below_drewN ?_ _ | refine Below.alloc ?_ (by first | (simp; done) | (simp; omega) | omega) _ | refine below_alloc ?_ _ | refine below_step ?_ (by assumption))); have hz_w2 := hB_w2.size; clear hb hB_w1 hlw10_0 hlw10_1 hlw10_2 hkw10 hkw11 hkw12
      go_wp2
      go_ret2
      exact ⟨⟨_, rfl, World.ownsRow_nil _ _ _ _⟩, (by repeat (first | exact Below.refl _ _ | assumption | refine Below.setCell ?_ (by first | (simp; done) | (simp; omega) | omega) _ | refine Below.drew ?_ | refine below_drewN ?_ _ | refine Below.alloc ?_ (by first | (simp; done) | (simp; omega) | omega) _ | refine below_alloc ?_ _ | refine below_step ?_ (by assumption)))⟩
    · rw [ht, if_pos rfl] at hE
      rw [ht] at c2
      rw [hln] at hE hlen
      by_cases h10 : len = 10
      · rw [if_pos h10] at hE
        rw [hE, if_neg (by decide)] at hL
        rw [hE, hL]
        have C1 := Lib.hid c1
        have C2 := Lib.hid c2
        have h10' : ((len : Int) == 10) = true := by simp; omega
        clear c1 c2 hx hv hE hL hln ht h10
        go_enter Try.func44, Try.ntmps44
        go_wp2_with fail
        refine (C1.out _ (by repeat (first | exact Below.refl _ _ | assumption | refine Below.setCell ?_ (by first | (simp; done) | (simp; omega) | omega) _ | refine Below.drew ?_ | refine below_drewN ?_ _ | refine Below.alloc ?_ (by first | (simp; done) | (simp; omega) | omega) _ | refine below_alloc ?_ _ | refine below_step ?_ (by assumption)))).mono ?_
        rintro e w1 ⟨rfl, hb⟩
        have hB_w1 : Below w.heap.size w w1 := (by repeat (first | exact Below.refl _ _ | assumption | refine Below.setCell ?_ (by first | (simp; done) | (simp; omega) | omega) _ | refine Below.drew ?_ | refine below_drewN ?_ _ | refine Below.alloc ?_ (by first | (simp; done) | (simp; omega) | omega) _ | refine below_alloc ?_ _ | refine below_step ?_ (by assumption))); have hz_w1 := hB_w1.size; have hsw10 : w.heap.size < w1.heap.size := Nat.lt_of_lt_of_le (by first | (simp; done) | (simp; omega) | omega) hb.size; have hnw10 : ¬ w.heap.size = w1.heap.size := (by omega); have hmw10 : ¬ w1.heap.size = w.heap.size := (by omega); have hlw10_0 : w.heap.size ≤ w1.heap.size := (by omega); have hlw10_1 : w.heap.size ≤ w1.heap.size + 1 := (by omega); have hlw10_2 : w.heap.size ≤ w1.heap.size + 1 + 1 := (by omega); have hkw10 : w1.cell? ⟨w.heap.size, 0, none⟩ = some (.int .i64 a) := (by rw [hb.cell (p := ⟨w.heap.size, 0, none⟩) (by first | (simp; done) | (simp; omega) | omega)]; first | (go_simp; done) | assumption); have hkw11 : w1.cell? ⟨w.heap.size, 1, none⟩ = some (.int .i64 b) := (by rw [hb.cell (p := ⟨w.heap.size, 1, none⟩) (by first | (simp; done) | (simp; omega) | omega)]; first | (go_simp; done) | assumption); have hkw12 : w1.cell? ⟨w.heap.size, 2, none⟩ = some (.int .i64 o) := (by rw [hb.cell (p := ⟨w.heap.size, 2, none⟩) (by first | (simp; done) | (simp; omega) | omega)]; first | (go_simp; done) | assumption); clear hb
        go_wp2_with fail
        refine (C2.out _).mono ?_
        rintro e w2 ⟨rfl, hb⟩
        have hB_w2 : Below w.heap.size w w2 := (by repeat (first | exact Below.refl _ _ | assumption | refine Below.setCell ?_ (by first | (simp; done) | (simp; omega) | omega) _ | refine Below.drew ?_ | refine below_drewN ?_ _ | refine Below.alloc ?_ (by first | (simp; done) | (simp; omega) | omega) _ | refine below_alloc ?_ _ | refine below_step ?_ (by assumption))); have hz_w2 := hB_w2.size; clear hb hB_w1 hlw10_0 hlw10_1 hlw10_2 hkw10 hkw11 hkw12
        go_wp2
        go_ret2
        exact ⟨⟨_, rfl, World.ownsRow_nil _ _ _ _⟩, (by repeat (first | exact Below.refl _ _ | assumption | refine Below.setCell ?_ (by first | (simp; done) | (simp; omega) | omega) _ | refine Below.drew ?_ | refine below_drewN ?_ _ | refine Below.alloc ?_ (by first | (simp; done) | (simp; omega) | omega) _ | refine below_alloc ?_ _ | refine below_step ?_ (by assumption)))⟩
      · rw [if_neg h10] at hE
        rw [hE, if_pos rfl] at hL
        rw [hE, hL]
        obtain ⟨j0, hj, hy0, hy1, hy2⟩ := info_parts info_tape
        have hJ0 := Lib.hid hj
        have hJ1 := Lib.hid hy0
        have hJ2 := Lib.hid hy1
        have hJ3 := Lib.hid hy2
        have HX := Lib.hid hx
        have hll := Lib.hid hln
        have C1 := Lib.hid c1
        have C2 := Lib.hid c2
        have h10' : ((len : Int) == 10) = false := by simp; omega
        clear c1 c2 hx hv hE hL hln ht h10 hj hy0 hy1 hy2
        go_enter Try.func44, Try.ntmps44
        go_wp2_with fail
        refine (C1.out _ (by repeat (first | exact Below.refl _ _ | assumption | refine Below.setCell ?_ (by first | (simp; done) | (simp; omega) | omega) _ | refine Below.drew ?_ | refine below_drewN ?_ _ | refine Below.alloc ?_ (by first | (simp; done) | (simp; omega) | omega) _ | refine below_alloc ?_ _ | refine below_step ?_ (by assumption)))).mono ?_
        rintro e w0 ⟨rfl, hb⟩
        have hB_w0 : Below w.heap.size w w0 := (by repeat (first | exact Below.refl _ _ | assumption | refine Below.setCell ?_ (by first | (simp; done) | (simp; omega) | omega) _ | refine Below.drew ?_ | refine below_drewN ?_ _ | refine Below.alloc ?_ (by first | (simp; done) | (simp; omega) | omega) _ | refine below_alloc ?_ _ | refine below_step ?_ (by assumption))); have hz_w0 := hB_w0.size; have hsw00 : w.heap.size < w0.heap.size := Nat.lt_of_lt_of_le (by first | (simp; done) | (simp; omega) | omega) hb.size; have hnw00 : ¬ w.heap.size = w0.heap.size := (by omega); have hmw00 : ¬ w0.heap.size = w.heap.size := (by omega); have hlw00_0 : w.heap.size ≤ w0.heap.size := (by omega); have hlw00_1 : w.heap.size ≤ w0.heap.size + 1 := (by omega); have hlw00_2 : w.heap.size ≤ w0.heap.size + 1 + 1 := (by omega); have hkw00 : w0.cell? ⟨w.heap.size, 0, none⟩ = some (.int .i64 a) := (by rw [hb.cell (p := ⟨w.heap.size, 0, none⟩) (by first | (simp; done) | (simp; omega) | omega)]; first | (go_simp; done) | assumption); have hkw01 : w0.cell? ⟨w.heap.size, 1, none⟩ = some (.int .i64 b) := (by rw [hb.cell (p := ⟨w.heap.size, 1, none⟩) (by first | (simp; done) | (simp; omega) | omega)]; first | (go_simp; done) | assumption); have hkw02 : w0.cell? ⟨w.heap.size, 2, none⟩ = some (.int .i64 o) := (by rw [hb.cell (p := ⟨w.heap.size, 2, none⟩) (by first | (simp; done) | (simp; omega) | omega)]; first | (go_simp; done) | assumption); clear hb
        go_wp2_with fail
        refine (C2.out _).mono ?_
        rintro e w1 ⟨rfl, hb⟩
        have hB_w1 : Below w.heap.size w w1 := (by repeat (first | exact Below.refl _ _ | assumption | refine Below.setCell ?_ (by first | (simp; done) | (simp; omega) | omega) _ | refine Below.drew ?_ | refine below_drewN ?_ _ | refine Below.alloc ?_ (by first | (simp; done) | (simp; omega) | omega) _ | refine below_alloc ?_ _ | refine below_step ?_ (by assumption))); have hz_w1 := hB_w1.size; have hsw10 : w.heap.size < w1.heap.size := Nat.lt_of_lt_of_le (by first | (simp; done) | (simp; omega) | omega) hb.size; have hnw10 : ¬ w.heap.size = w1.heap.size := (by omega); have hmw10 : ¬ w1.heap.size = w.heap.size := (by omega); have hlw10_0 : w.heap.size ≤ w1.heap.size := (by omega); have hlw10_1 : w.heap.size ≤ w1.heap.size + 1 := (by omega); have hlw10_2 : w.heap.size ≤ w1.heap.size + 1 + 1 := (by omega); have hkw10 : w1.cell? ⟨w.heap.size, 0, none⟩ = some (.int .i64 a) := (by rw [hb.cell (p := ⟨w.heap.size, 0, none⟩) (by first | (simp; done) | (simp; omega) | omega)]; first | (go_simp; done) | assumption); have hkw11 : w1.cell? ⟨w.heap.size, 1, none⟩ = some (.int .i64 b) := (by rw [hb.cell (p := ⟨w.heap.size, 1, none⟩) (by first | (simp; done) | (simp; omega) | omega)]; first | (go_simp; done) | assumption); have hkw12 : w1.cell? ⟨w.heap.size, 2, none⟩ = some (.int .i64 o) := (by rw [hb.cell (p := ⟨w.heap.size, 2, none⟩) (by first | (simp; done) | (simp; omega) | omega)]; first | (go_simp; done) | assumption); clear hb hB_w0 hlw00_0 hlw00_1 hlw00_2 hkw00 hkw01 hkw02
        have hsw : w.heap.size ≤ w1.heap.size := hz_w1
        go_wp2_with fail
        refine wp_region_mix (by kernel_rfl) (by kernel_rfl) ?_
        refine wpC_take (f := 5) (by kernel_rfl) (by kernel_rfl) ⟨⟨_, (Below.refl _ _).drew⟩, rfl⟩ [0, 2] _ _ (by kernel_rfl) ?_
        simp only [List.map_cons, List.map_nil, List.getElem?_toArray, List.getElem?_cons_succ, List.getElem?_cons_zero, Option.getD_some]
        repeat (go_big_quiet_step (fail))
        refine wpQuiet_nil ?_
        have hB : Below w1.heap.size w1 w1.drew := (Below.refl _ _).drew
        have HB1 := Lib.hid hB_w1
        refine wpC_all (rs := [1, 3]) (by kernel_rfl) (by decide) ?_
        intro i hi
        simp only [List.mem_cons, List.not_mem_nil, or_false] at hi
        rcases hi with rfl | rfl
        · refine ⟨_, rfl, ?_⟩
          go_simp
          refine (cloneT_any A len cap l _ (by omega) ((HX.out.below (HB1.out.trans (hB.mono hsw))).more (Nat.le_trans hsw hB.size))).mono ?_
          rintro e WW0 ⟨⟨vc, rfl, ho⟩, hb⟩
          have hro : ∀ k, vc.ownBlock = some k → w1.heap.size ≤ k := fun k hk => Nat.le_trans hB.size (ho.lt k hk).1
          replace ho := town_mono ho (Nat.le_trans hsw hB.size)
          replace hB := below_step hB hb
          clear hb
          refine ⟨⟨⟨_, hB⟩, rfl⟩, ?_⟩
          go_simp
          refine wpC_all (rs := [3]) (by kernel_rfl) (by decide) ?_
          intro i hi
          simp only [List.mem_cons, List.not_mem_nil, or_false] at hi
          subst hi
          refine ⟨_, rfl, ?_⟩
          go_simp
          obtain ⟨nb, hnb⟩ : ∃ q, q = WW0.heap.size := ⟨_, rfl⟩
          have hu : Bk (WW0.alloc (.cells #[.int .i64 a, .int .i64 b, .int .i64 o] 59)) nb #[.int .i64 a, .int .i64 b, .int .i64 o] 59 := by rw [hnb]; exact Bk.new WW0 #[.int .i64 a, .int .i64 b, .int .i64 o] 59
          replace hB : Below w1.heap.size w1 (WW0.alloc (.cells #[.int .i64 a, .int .i64 b, .int .i64 o] 59)) := hB.alloc hB.size _

          replace ho := ho.alloc (.cells #[.int .i64 a, .int .i64 b, .int .i64 o] 59)
          rw [← hnb]
          clear hnb
          generalize WW0.alloc (.cells #[.int .i64 a, .int .i64 b, .int .i64 o] 59) = WW1 at *
          refine ⟨⟨⟨_, hB⟩, rfl⟩, ?_⟩
          refine wpC_all (rs := [4]) (by kernel_rfl) (by decide) ?_
          intro i hi
          simp only [List.mem_cons, List.not_mem_nil, or_false] at hi
          subst hi
          refine ⟨_, rfl, ?_⟩
          refine wp_append_own _ (.tmp 24) (.tmp 26) 22 rfl w.heap.size 59 j0 (.agg #[.int .i64 0, .int .i64 0, .int .i64 0]) 3 24 Try.underlying22 hJ0.out hJ1.out hJ2.out hJ3.out rfl (by decide) _ len _ (by simp [Act.eval, Act.put]) ho ⟨nb, 0, none⟩ 1 1 (int3 (a, b, o)) (by simp [Act.eval, Act.put]) rfl hu.news (tone3 _) (by unfold maxLen; omega) (by omega) (Nat.le_trans hsw hB.size) ?_
          intro v2 WW2 hown hgr _
          replace hB : Below w1.heap.size w1 WW2 := hB.trans (grown_below hgr hB.size (fun k hk => hro k hk))
          have hO : Hid (WW2.ownsRow w.heap.size 59 3 v2 (l ++ [(a, b, o)]).length (tcells (l ++ [(a, b, o)]))) := Lib.hid (by rw [List.length_append, tcells_app, hll.out]; exact hown)
          clear hown hgr
          refine ⟨⟨⟨_, hB⟩, rfl⟩, ?_⟩
          go_simp
          refine wpC_take (f := 0) (by kernel_rfl) (by kernel_rfl) ⟨⟨_, hB⟩, rfl⟩ [5, 6] _ _ (by kernel_rfl) ?_
          simp only [List.map_cons, List.map_nil, List.getElem?_toArray, List.getElem?_cons_succ, List.getElem?_cons_zero, Option.getD_some]
          repeat (go_big_quiet_step (fail))
          refine wpQuiet_nil ?_
          refine wpC_done (by kernel_rfl) ?_
          go_wp2_with fail
          go_ret2
          exact ⟨⟨_, rfl, hO.out⟩, HB1.out.trans (hB.mono hsw)⟩
        · refine ⟨_, rfl, ?_⟩
          go_simp
          obtain ⟨nb, hnb⟩ : ∃ q, q = w1.heap.size := ⟨_, rfl⟩
          have hu : Bk (w1.alloc (.cells #[.int .i64 a, .int .i64 b, .int .i64 o] 59)).drew nb #[.int .i64 a, .int .i64 b, .int .i64 o] 59 := by rw [hnb]; exact (Bk.new w1 #[.int .i64 a, .int .i64 b, .int .i64 o] 59).later (Below.refl _ _).drew
          have hB : Below w1.heap.size w1 (w1.alloc (.cells #[.int .i64 a, .int .i64 b, .int .i64 o] 59)).drew := ((Below.refl _ w1).alloc (Nat.le_refl _) _).drew
          rw [← hnb]
          have HNB := Lib.hid hnb
          clear hnb
          generalize (w1.alloc (.cells #[.int .i64 a, .int .i64 b, .int .i64 o] 59)).drew = WW0 at *
          refine ⟨⟨⟨_, hB⟩, rfl⟩, ?_⟩
          refine wpC_all (rs := [1]) (by kernel_rfl) (by decide) ?_
          intro i hi
          simp only [List.mem_cons, List.not_mem_nil, or_false] at hi
          subst hi
          refine ⟨_, rfl, ?_⟩
          go_simp
          refine (cloneT_any A len cap l _ (by omega) ((HX.out.below (HB1.out.trans (hB.mono hsw))).more (Nat.le_trans hsw hB.size))).mono ?_
          rintro e WW1 ⟨⟨vc, rfl, ho⟩, hb⟩
          have hro : ∀ k, vc.ownBlock = some k → w1.heap.size ≤ k := fun k hk => Nat.le_trans hB.size (ho.lt k hk).1
          replace ho := town_mono ho (Nat.le_trans hsw hB.size)
          replace hB := below_step hB hb
          replace hu := hu.later hb
          clear hb
          refine ⟨⟨⟨_, hB⟩, rfl⟩, ?_⟩
          go_simp
          refine wpC_all (rs := [4]) (by kernel_rfl) (by decide) ?_
          intro i hi
          simp only [List.mem_cons, List.not_mem_nil, or_false] at hi
          subst hi
          refine ⟨_, rfl, ?_⟩
          refine wp_append_own _ (.tmp 24) (.tmp 26) 22 rfl w.heap.size 59 j0 (.agg #[.int .i64 0, .int .i64 0, .int .i64 0]) 3 24 Try.underlying22 hJ0.out hJ1.out hJ2.out hJ3.out rfl (by decide) _ len _ (by simp [Act.eval, Act.put]) ho ⟨nb, 0, none⟩ 1 1 (int3 (a, b, o)) (by simp [Act.eval, Act.put]) rfl hu.news (tone3 _) (by unfold maxLen; omega) (by omega) (Nat.le_trans hsw hB.size) ?_
          intro v2 WW2 hown hgr _
          replace hB : Below w1.heap.size w1 WW2 := hB.trans (grown_below hgr hB.size (fun k hk => hro k hk))
          have hO : Hid (WW2.ownsRow w.heap.size 59 3 v2 (l ++ [(a, b, o)]).length (tcells (l ++ [(a, b, o)]))) := Lib.hid (by rw [List.length_append, tcells_app, hll.out]; exact hown)
          clear hown hgr
          refine ⟨⟨⟨_, hB⟩, rfl⟩, ?_⟩
          go_simp
          refine wpC_take (f := 0) (by kernel_rfl) (by kernel_rfl) ⟨⟨_, hB⟩, rfl⟩ [5, 6] _ _ (by kernel_rfl) ?_
          simp only [List.map_cons, List.map_nil, List.getElem?_toArray, List.getElem?_cons_succ, List.getElem?_cons_zero, Option.getD_some]
          repeat (go_big_quiet_step (fail))
          refine wpQuiet_nil ?_
          refine wpC_done (by kernel_rfl) ?_
          go_wp2_with fail
          go_ret2
          exact ⟨⟨_, rfl, hO.out⟩, HB1.out.trans (hB.mono hsw)⟩
set_option maxRecDepth 20000 in
set_option maxHeartbeats 4000000 in
theorem rAdded_any (n : Int) (A : Option Addr) (len cap : Nat) (l : List Tp) (a b o : Int) (w : World) (hm : len ≤ 9223372036854775807) (hx : Rows 3 int3 (0,0,0) w w.heap.size A len l) :
    Calls Try.prog 45 #[.int .i64 n, .slice A len cap, .agg #[.int .i64 a, .int .i64 b, .int .i64 o]] w fun e w' => (∃ v, e = .returned (.tuple #[v, .int .i64 (adE n l (a, b, o))]) ∧ w'.ownsRow w.heap.size 59 3 v (adL n l (a, b, o)).length (tcells (adL n l (a, b, o)))) ∧ Below w.heap.size w w' := by
  have hE : adE n l (a, b, o) = if vNet n l then (if vT n (a, b, o) then (if l.length = 10 then 4 else 0) else 1) else 1 := rfl
  have hL : adL n l (a, b, o) = if adE n l (a, b, o) = 0 then l ++ [(a, b, o)] else [] := rfl
  have c1 := fun W (h : Below w.heap.size w W) => rValid_any n A len cap l W hm ((hx.below h).more h.size)
  have c2 := fun W => rsound_any n a b o W
  have hln := hx.1
  cases hv : vNet n l
  · rw [hv, if_neg (by decide)] at hE
    rw [hE, if_neg (by decide)] at hL
    rw [hv] at c1
    rw [hE, hL]
    have C1 := Lib.hid c1
    clear c1 c2 hx hv hE hL hln
    go_enter Try.func45, Try.ntmps45
    go_wp2_with fail
    refine (C1.out _ (by repeat (first | exact Below.refl _ _ | assumption | refine Below.setCell ?_ (by first | (simp; done) | (simp; omega) | omega) _ | refine Below.drew ?_ | refine below_drewN ?_ _ | refine Below.alloc ?_ (by first | (simp; done) | (simp; omega) | omega) _ | refine below_alloc ?_ _ | refine below_step ?_ (by assumption)))).mono ?_
    rintro e w1 ⟨rfl, hb⟩
    have hB_w1 : Below w.heap.size w w1 := (by repeat (first | exact Below.refl _ _ | assumption | refine Below.setCell ?_ (by first | (simp; done) | (simp; omega) | omega) _ | refine Below.drew ?_ | refine below_drewN ?_ _ | refine Below.alloc ?_ (by first | (simp; done) | (simp; omega) | omega) _ | refine below_alloc ?_ _ | refine below_step ?_ (by assumption))); have hz_w1 := hB_w1.size; clear hb
    go_wp2
    go_ret2
    exact ⟨⟨_, rfl, World.ownsRow_nil _ _ _ _⟩, (by repeat (first | exact Below.refl _ _ | assumption | refine Below.setCell ?_ (by first | (simp; done) | (simp; omega) | omega) _ | refine Below.drew ?_ | refine below_drewN ?_ _ | refine Below.alloc ?_ (by first | (simp; done) | (simp; omega) | omega) _ | refine below_alloc ?_ _ | refine below_step ?_ (by assumption)))⟩
  · have hlen := (vNet_spec hv).2.1
    rw [hv, if_pos rfl] at hE
    rw [hv] at c1
    cases ht : vT n (a, b, o)
    · rw [ht, if_neg (by decide)] at hE
      rw [hE, if_neg (by decide)] at hL
      rw [ht] at c2
      rw [hE, hL]
      have C1 := Lib.hid c1
      have C2 := Lib.hid c2
      clear c1 c2 hx hv hE hL hln ht
      go_enter Try.func45, Try.ntmps45
      go_wp2_with fail
      refine (C1.out _ (by repeat (first | exact Below.refl _ _ | assumption | refine Below.setCell ?_ (by first | (simp; done) | (simp; omega) | omega) _ | refine Below.drew ?_ | refine below_drewN ?_ _ | refine Below.alloc ?_ (by first | (simp; done) | (simp; omega) | omega) _ | refine below_alloc ?_ _ | refine below_step ?_ (by assumption)))).mono ?_
      rintro e w1 ⟨rfl, hb⟩
      have hB_w1 : Below w.heap.size w w1 := (by repeat (first | exact Below.refl _ _ | assumption | refine Below.setCell ?_ (by first | (simp; done) | (simp; omega) | omega) _ | refine Below.drew ?_ | refine below_drewN ?_ _ | refine Below.alloc ?_ (by first | (simp; done) | (simp; omega) | omega) _ | refine below_alloc ?_ _ | refine below_step ?_ (by assumption))); have hz_w1 := hB_w1.size; have hsw10 : w.heap.size < w1.heap.size := Nat.lt_of_lt_of_le (by first | (simp; done) | (simp; omega) | omega) hb.size; have hnw10 : ¬ w.heap.size = w1.heap.size := (by omega); have hmw10 : ¬ w1.heap.size = w.heap.size := (by omega); have hlw10_0 : w.heap.size ≤ w1.heap.size := (by omega); have hlw10_1 : w.heap.size ≤ w1.heap.size + 1 := (by omega); have hlw10_2 : w.heap.size ≤ w1.heap.size + 1 + 1 := (by omega); have hkw10 : w1.cell? ⟨w.heap.size, 0, none⟩ = some (.int .i64 a) := (by rw [hb.cell (p := ⟨w.heap.size, 0, none⟩) (by first | (simp; done) | (simp; omega) | omega)]; first | (go_simp; done) | assumption); have hkw11 : w1.cell? ⟨w.heap.size, 1, none⟩ = some (.int .i64 b) := (by rw [hb.cell (p := ⟨w.heap.size, 1, none⟩) (by first | (simp; done) | (simp; omega) | omega)]; first | (go_simp; done) | assumption); have hkw12 : w1.cell? ⟨w.heap.size, 2, none⟩ = some (.int .i64 o) := (by rw [hb.cell (p := ⟨w.heap.size, 2, none⟩) (by first | (simp; done) | (simp; omega) | omega)]; first | (go_simp; done) | assumption); clear hb
      go_wp2_with fail
      refine (C2.out _).mono ?_
      rintro e w2 ⟨rfl, hb⟩
      have hB_w2 : Below w.heap.size w w2 := (by repeat (first | exact Below.refl _ _ | assumption | refine Below.setCell ?_ (by first | (simp; done) | (simp; omega) | omega) _ | refine Below.drew ?_ | refine below_drewN ?_ _ | refine Below.alloc ?_ (by first | (simp; done) | (simp; omega) | omega) _ | refine below_alloc ?_ _ | refine below_step ?_ (by assumption))); have hz_w2 := hB_w2.size; clear hb hB_w1 hlw10_0 hlw10_1 hlw10_2 hkw10 hkw11 hkw12
      go_wp2
      go_ret2
      exact ⟨⟨_, rfl, World.ownsRow_nil _ _ _ _⟩, (by repeat (first | exact Below.refl _ _ | assumption | refine Below.setCell ?_ (by first | (simp; done) | (simp; omega) | omega) _ | refine Below.drew ?_ | refine below_drewN ?_ _ | refine Below.alloc ?_ (by first | (simp; done) | (simp; omega) | omega) _ | refine below_alloc ?_ _ | refine below_step ?_ (by assumption)))⟩
    · rw [ht, if_pos rfl] at hE
      rw [ht] at c2
      rw [hln] at hE hlen
      by_cases h10 : len = 10
      · rw [if_pos h10] at hE
        rw [hE, if_neg (by decide)] at hL
        rw [hE, hL]
        have C1 := Lib.hid c1
        have C2 := Lib.hid c2
        have h10' : ((len : Int) == 10) = true := by simp; omega
        clear c1 c2 hx hv hE hL hln ht h10
        go_enter Try.func45, Try.ntmps45
        go_wp2_with fail
        refine (C1.out _ (by repeat (first | exact Below.refl _ _ | assumption | refine Below.setCell ?_ (by first | (simp; done) | (simp; omega) | omega) _ | refine Below.drew ?_ | refine below_drewN ?_ _ | refine Below.alloc ?_ (by first | (simp; done) | (simp; omega) | omega) _ | refine below_alloc ?_ _ | refine below_step ?_ (by assumption)))).mono ?_
        rintro e w1 ⟨rfl, hb⟩
        have hB_w1 : Below w.heap.size w w1 := (by repeat (first | exact Below.refl _ _ | assumption | refine Below.setCell ?_ (by first | (simp; done) | (simp; omega) | omega) _ | refine Below.drew ?_ | refine below_drewN ?_ _ | refine Below.alloc ?_ (by first | (simp; done) | (simp; omega) | omega) _ | refine below_alloc ?_ _ | refine below_step ?_ (by assumption))); have hz_w1 := hB_w1.size; have hsw10 : w.heap.size < w1.heap.size := Nat.lt_of_lt_of_le (by first | (simp; done) | (simp; omega) | omega) hb.size; have hnw10 : ¬ w.heap.size = w1.heap.size := (by omega); have hmw10 : ¬ w1.heap.size = w.heap.size := (by omega); have hlw10_0 : w.heap.size ≤ w1.heap.size := (by omega); have hlw10_1 : w.heap.size ≤ w1.heap.size + 1 := (by omega); have hlw10_2 : w.heap.size ≤ w1.heap.size + 1 + 1 := (by omega); have hkw10 : w1.cell? ⟨w.heap.size, 0, none⟩ = some (.int .i64 a) := (by rw [hb.cell (p := ⟨w.heap.size, 0, none⟩) (by first | (simp; done) | (simp; omega) | omega)]; first | (go_simp; done) | assumption); have hkw11 : w1.cell? ⟨w.heap.size, 1, none⟩ = some (.int .i64 b) := (by rw [hb.cell (p := ⟨w.heap.size, 1, none⟩) (by first | (simp; done) | (simp; omega) | omega)]; first | (go_simp; done) | assumption); have hkw12 : w1.cell? ⟨w.heap.size, 2, none⟩ = some (.int .i64 o) := (by rw [hb.cell (p := ⟨w.heap.size, 2, none⟩) (by first | (simp; done) | (simp; omega) | omega)]; first | (go_simp; done) | assumption); clear hb
        go_wp2_with fail
        refine (C2.out _).mono ?_
        rintro e w2 ⟨rfl, hb⟩
        have hB_w2 : Below w.heap.size w w2 := (by repeat (first | exact Below.refl _ _ | assumption | refine Below.setCell ?_ (by first | (simp; done) | (simp; omega) | omega) _ | refine Below.drew ?_ | refine below_drewN ?_ _ | refine Below.alloc ?_ (by first | (simp; done) | (simp; omega) | omega) _ | refine below_alloc ?_ _ | refine below_step ?_ (by assumption))); have hz_w2 := hB_w2.size; clear hb hB_w1 hlw10_0 hlw10_1 hlw10_2 hkw10 hkw11 hkw12
        go_wp2
        go_ret2
        exact ⟨⟨_, rfl, World.ownsRow_nil _ _ _ _⟩, (by repeat (first | exact Below.refl _ _ | assumption | refine Below.setCell ?_ (by first | (simp; done) | (simp; omega) | omega) _ | refine Below.drew ?_ | refine below_drewN ?_ _ | refine Below.alloc ?_ (by first | (simp; done) | (simp; omega) | omega) _ | refine below_alloc ?_ _ | refine below_step ?_ (by assumption)))⟩
      · rw [if_neg h10] at hE
        rw [hE, if_pos rfl] at hL
        rw [hE, hL]
        obtain ⟨j0, hj, hy0, hy1, hy2⟩ := info_parts info_tape
        have hJ0 := Lib.hid hj
        have hJ1 := Lib.hid hy0
        have hJ2 := Lib.hid hy1
        have hJ3 := Lib.hid hy2
        have HX := Lib.hid hx
        have hll := Lib.hid hln
        have C1 := Lib.hid c1
        have C2 := Lib.hid c2
        have h10' : ((len : Int) == 10) = false := by simp; omega
        clear c1 c2 hx hv hE hL hln ht h10 hj hy0 hy1 hy2
        go_enter Try.func45, Try.ntmps45
        go_wp2_with fail
        refine (C1.out _ (by repeat (first | exact Below.refl _ _ | assumption | refine Below.setCell ?_ (by first | (simp; done) | (simp; omega) | omega) _ | refine Below.drew ?_ | refine below_drewN ?_ _ | refine Below.alloc ?_ (by first | (simp; done) | (simp; omega) | omega) _ | refine below_alloc ?_ _ | refine below_step ?_ (by assumption)))).mono ?_
        rintro e w0 ⟨rfl, hb⟩
        have hB_w0 : Below w.heap.size w w0 := (by repeat (first | exact Below.refl _ _ | assumption | refine Below.setCell ?_ (by first | (simp; done) | (simp; omega) | omega) _ | refine Below.drew ?_ | refine below_drewN ?_ _ | refine Below.alloc ?_ (by first | (simp; done) | (simp; omega) | omega) _ | refine below_alloc ?_ _ | refine below_step ?_ (by assumption))); have hz_w0 := hB_w0.size; have hsw00 : w.heap.size < w0.heap.size := Nat.lt_of_lt_of_le (by first | (simp; done) | (simp; omega) | omega) hb.size; have hnw00 : ¬ w.heap.size = w0.heap.size := (by omega); have hmw00 : ¬ w0.heap.size = w.heap.size := (by omega); have hlw00_0 : w.heap.size ≤ w0.heap.size := (by omega); have hlw00_1 : w.heap.size ≤ w0.heap.size + 1 := (by omega); have hlw00_2 : w.heap.size ≤ w0.heap.size + 1 + 1 := (by omega); have hkw00 : w0.cell? ⟨w.heap.size, 0, none⟩ = some (.int .i64 a) := (by rw [hb.cell (p := ⟨w.heap.size, 0, none⟩) (by first | (simp; done) | (simp; omega) | omega)]; first | (go_simp; done) | assumption); have hkw01 : w0.cell? ⟨w.heap.size, 1, none⟩ = some (.int .i64 b) := (by rw [hb.cell (p := ⟨w.heap.size, 1, none⟩) (by first | (simp; done) | (simp; omega) | omega)]; first | (go_simp; done) | assumption); have hkw02 : w0.cell? ⟨w.heap.size, 2, none⟩ = some (.int .i64 o) := (by rw [hb.cell (p := ⟨w.heap.size, 2, none⟩) (by first | (simp; done) | (simp; omega) | omega)]; first | (go_simp; done) | assumption); clear hb
        go_wp2_with fail
        refine (C2.out _).mono ?_
        rintro e w1 ⟨rfl, hb⟩
        have hB_w1 : Below w.heap.size w w1 := (by repeat (first | exact Below.refl _ _ | assumption | refine Below.setCell ?_ (by first | (simp; done) | (simp; omega) | omega) _ | refine Below.drew ?_ | refine below_drewN ?_ _ | refine Below.alloc ?_ (by first | (simp; done) | (simp; omega) | omega) _ | refine below_alloc ?_ _ | refine below_step ?_ (by assumption))); have hz_w1 := hB_w1.size; have hsw10 : w.heap.size < w1.heap.size := Nat.lt_of_lt_of_le (by first | (simp; done) | (simp; omega) | omega) hb.size; have hnw10 : ¬ w.heap.size = w1.heap.size := (by omega); have hmw10 : ¬ w1.heap.size = w.heap.size := (by omega); have hlw10_0 : w.heap.size ≤ w1.heap.size := (by omega); have hlw10_1 : w.heap.size ≤ w1.heap.size + 1 := (by omega); have hlw10_2 : w.heap.size ≤ w1.heap.size + 1 + 1 := (by omega); have hkw10 : w1.cell? ⟨w.heap.size, 0, none⟩ = some (.int .i64 a) := (by rw [hb.cell (p := ⟨w.heap.size, 0, none⟩) (by first | (simp; done) | (simp; omega) | omega)]; first | (go_simp; done) | assumption); have hkw11 : w1.cell? ⟨w.heap.size, 1, none⟩ = some (.int .i64 b) := (by rw [hb.cell (p := ⟨w.heap.size, 1, none⟩) (by first | (simp; done) | (simp; omega) | omega)]; first | (go_simp; done) | assumption); have hkw12 : w1.cell? ⟨w.heap.size, 2, none⟩ = some (.int .i64 o) := (by rw [hb.cell (p := ⟨w.heap.size, 2, none⟩) (by first | (simp; done) | (simp; omega) | omega)]; first | (go_simp; done) | assumption); clear hb hB_w0 hlw00_0 hlw00_1 hlw00_2 hkw00 hkw01 hkw02
        have hsw : w.heap.size ≤ w1.heap.size := hz_w1
        go_wp2_with fail
        refine wp_region_mix (by kernel_rfl) (by kernel_rfl) ?_
        refine wpC_take (f := 6) (by kernel_rfl) (by kernel_rfl) ⟨⟨_, (Below.refl _ _).drew⟩, rfl⟩ [1, 3] _ _ (by kernel_rfl) ?_
        simp only [List.map_cons, List.map_nil, List.getElem?_toArray, List.getElem?_cons_succ, List.getElem?_cons_zero, Option.getD_some]
        repeat (go_big_quiet_step (fail))
        refine wpQuiet_nil ?_
        have hB : Below w1.heap.size w1 w1.drew := (Below.refl _ _).drew
        have HB1 := Lib.hid hB_w1
        refine wpC_all (rs := [0, 4]) (by kernel_rfl) (by decide) ?_
        intro i hi
        simp only [List.mem_cons, List.not_mem_nil, or_false] at hi
        rcases hi with rfl | rfl
        · refine ⟨_, rfl, ?_⟩
          go_simp
          have ho := town_later (World.ownsRow_made (base := w.heap.size) (e := 59) (size := 3) w1 #[] 0 hsw (Nat.zero_le _) rfl) (Below.refl _ _).drew
          have hro0 : w1.heap.size ≤ w1.heap.size := Nat.le_refl _
          have hB : Below w1.heap.size w1 (w1.alloc (.cells #[] 59)).drew := ((Below.refl _ w1).alloc (Nat.le_refl _) _).drew
          obtain ⟨g0, hg0⟩ : ∃ q, q = w1.heap.size := ⟨_, rfl⟩
          have hge0 : w1.heap.size ≤ g0 := by omega
          rw [← hg0] at ho ⊢
          generalize (w1.alloc (.cells #[] 59)).drew = WW0 at *
          clear hro0
          refine ⟨⟨⟨_, hB⟩, rfl⟩, ?_⟩
          refine wpC_all (rs := [2, 4]) (by kernel_rfl) (by decide) ?_
          intro i hi
          simp only [List.mem_cons, List.not_mem_nil, or_false] at hi
          rcases hi with rfl | rfl
          · refine ⟨_, rfl, ?_⟩
            have hsB := hB.size
            refine wp_append_src (.tmp 23) (.tmp 24) 22 rfl w.heap.size 59 j0 (.agg #[.int .i64 0, .int .i64 0, .int .i64 0]) 3 24 Try.underlying22 hJ0.out hJ1.out hJ2.out hJ3.out rfl (by decide) _ 0 [] (by simp [Act.eval, Act.put]) ho (by simp) A len cap (tcells l) (by simp [Act.eval, Act.put]) (by rw [tcells_len, hll.out]) (fun h => HX.out.nil' h) ((HX.out.below (HB1.out.trans (hB.mono hsw))).cellsT) (tcells_one l) (by unfold maxLen; omega) (by omega) (Nat.le_trans hsw hB.size) ?_
            intro g2 cap2 WW1 hown hgr hat
            have hro : ∀ k, (Value.slice (some ⟨g2, 0, none⟩) len cap2).ownBlock = some k → w1.heap.size ≤ k := fun k hk => by
              simp [Value.ownBlock] at hk hat
              omega
            replace hB : Below w1.heap.size w1 WW1 := hB.trans (grown_below hgr hB.size (fun k hk => by simp [Value.ownBlock] at hk; omega))
            replace ho : WW1.ownsRow w.heap.size 59 3 (.slice (some ⟨g2, 0, none⟩) len cap2) len (tcells l) := by simpa using hown
            clear hown hgr hat
            refine ⟨⟨⟨_, hB⟩, rfl⟩, ?_⟩
            rw [Nat.zero_add]
            go_simp
            refine wpC_all (rs := [4]) (by kernel_rfl) (by decide) ?_
            intro i hi
            simp only [List.mem_cons, List.not_mem_nil, or_false] at hi
            subst hi
            refine ⟨_, rfl, ?_⟩
            go_simp
            obtain ⟨nb, hnb⟩ : ∃ q, q = WW1.heap.size := ⟨_, rfl⟩
            have hu : Bk (WW1.alloc (.cells #[.int .i64 a, .int .i64 b, .int .i64 o] 59)) nb #[.int .i64 a, .int .i64 b, .int .i64 o] 59 := by rw [hnb]; exact Bk.new WW1 #[.int .i64 a, .int .i64 b, .int .i64 o] 59
            replace hB : Below w1.heap.size w1 (WW1.alloc (.cells #[.int .i64 a, .int .i64 b, .int .i64 o] 59)) := hB.alloc hB.size _

            replace ho := ho.alloc (.cells #[.int .i64 a, .int .i64 b, .int .i64 o] 59)
            rw [← hnb]
            clear hnb
            generalize WW1.alloc (.cells #[.int .i64 a, .int .i64 b, .int .i64 o] 59) = WW2 at *
            refine ⟨⟨⟨_, hB⟩, rfl⟩, ?_⟩
            refine wpC_all (rs := [5]) (by kernel_rfl) (by decide) ?_
            intro i hi
            simp only [List.mem_cons, List.not_mem_nil, or_false] at hi
            subst hi
            refine ⟨_, rfl, ?_⟩
            refine wp_append_own _ (.tmp 25) (.tmp 27) 22 rfl w.heap.size 59 j0 (.agg #[.int .i64 0, .int .i64 0, .int .i64 0]) 3 24 Try.underlying22 hJ0.out hJ1.out hJ2.out hJ3.out rfl (by decide) _ len _ (by simp [Act.eval, Act.put]) ho ⟨nb, 0, none⟩ 1 1 (int3 (a, b, o)) (by simp [Act.eval, Act.put]) rfl hu.news (tone3 _) (by unfold maxLen; omega) (by omega) (Nat.le_trans hsw hB.size) ?_
            intro v3 WW3 hown hgr _
            replace hB : Below w1.heap.size w1 WW3 := hB.trans (grown_below hgr hB.size (fun k hk => hro k hk))
            have hO : Hid (WW3.ownsRow w.heap.size 59 3 v3 (l ++ [(a, b, o)]).length (tcells (l ++ [(a, b, o)]))) := Lib.hid (by rw [List.length_append, tcells_app, hll.out]; exact hown)
            clear hown hgr
            refine ⟨⟨⟨_, hB⟩, rfl⟩, ?_⟩
            go_simp
            refine wpC_take (f := 0) (by kernel_rfl) (by kernel_rfl) ⟨⟨_, hB⟩, rfl⟩ [6, 7] _ _ (by kernel_rfl) ?_
            simp only [List.map_cons, List.map_nil, List.getElem?_toArray, List.getElem?_cons_succ, List.getElem?_cons_zero, Option.getD_some]
            repeat (go_big_quiet_step (fail))
            refine wpQuiet_nil ?_
            refine wpC_done (by kernel_rfl) ?_
            go_wp2_with fail
            go_ret2
            exact ⟨⟨_, rfl, hO.out⟩, HB1.out.trans (hB.mono hsw)⟩
          · refine ⟨_, rfl, ?_⟩
            go_simp
            obtain ⟨nb, hnb⟩ : ∃ q, q = WW0.heap.size := ⟨_, rfl⟩
            have hu : Bk (WW0.alloc (.cells #[.int .i64 a, .int .i64 b, .int .i64 o] 59)) nb #[.int .i64 a, .int .i64 b, .int .i64 o] 59 := by rw [hnb]; exact Bk.new WW0 #[.int .i64 a, .int .i64 b, .int .i64 o] 59
            replace hB : Below w1.heap.size w1 (WW0.alloc (.cells #[.int .i64 a, .int .i64 b, .int .i64 o] 59)) := hB.alloc hB.size _
            have hnb0 : nb ≠ g0 := by have := (ho.lt g0 rfl).2; omega
            replace ho := ho.alloc (.cells #[.int .i64 a, .int .i64 b, .int .i64 o] 59)
            rw [← hnb]
            clear hnb
            generalize WW0.alloc (.cells #[.int .i64 a, .int .i64 b, .int .i64 o] 59) = WW1 at *
            refine ⟨⟨⟨_, hB⟩, rfl⟩, ?_⟩
            refine wpC_all (rs := [2]) (by kernel_rfl) (by decide) ?_
            intro i hi
            simp only [List.mem_cons, List.not_mem_nil, or_false] at hi
            subst hi
            refine ⟨_, rfl, ?_⟩
            have hsB := hB.size
            refine wp_append_src (.tmp 23) (.tmp 24) 22 rfl w.heap.size 59 j0 (.agg #[.int .i64 0, .int .i64 0, .int .i64 0]) 3 24 Try.underlying22 hJ0.out hJ1.out hJ2.out hJ3.out rfl (by decide) _ 0 [] (by simp [Act.eval, Act.put]) ho (by simp) A len cap (tcells l) (by simp [Act.eval, Act.put]) (by rw [tcells_len, hll.out]) (fun h => HX.out.nil' h) ((HX.out.below (HB1.out.trans (hB.mono hsw))).cellsT) (tcells_one l) (by unfold maxLen; omega) (by omega) (Nat.le_trans hsw hB.size) ?_
            intro g2 cap2 WW2 hown hgr hat
            have hro : ∀ k, (Value.slice (some ⟨g2, 0, none⟩) len cap2).ownBlock = some k → w1.heap.size ≤ k := fun k hk => by
              simp [Value.ownBlock] at hk hat
              omega
            replace hu := hu.grown hgr (by simp [Value.ownBlock]; omega)
            replace hB : Below w1.heap.size w1 WW2 := hB.trans (grown_below hgr hB.size (fun k hk => by simp [Value.ownBlock] at hk; omega))
            replace ho : WW2.ownsRow w.heap.size 59 3 (.slice (some ⟨g2, 0, none⟩) len cap2) len (tcells l) := by simpa using hown
            clear hown hgr hat
            refine ⟨⟨⟨_, hB⟩, rfl⟩, ?_⟩
            rw [Nat.zero_add]
            go_simp
            refine wpC_all (rs := [5]) (by kernel_rfl) (by decide) ?_
            intro i hi
            simp only [List.mem_cons, List.not_mem_nil, or_false] at hi
            subst hi
            refine ⟨_, rfl, ?_⟩
            refine wp_append_own _ (.tmp 25) (.tmp 27) 22 rfl w.heap.size 59 j0 (.agg #[.int .i64 0, .int .i64 0, .int .i64 0]) 3 24 Try.underlying22 hJ0.out hJ1.out hJ2.out hJ3.out rfl (by decide) _ len _ (by simp [Act.eval, Act.put]) ho ⟨nb, 0, none⟩ 1 1 (int3 (a, b, o)) (by simp [Act.eval, Act.put]) rfl hu.news (tone3 _) (by unfold maxLen; omega) (by omega) (Nat.le_trans hsw hB.size) ?_
            intro v3 WW3 hown hgr _
            replace hB : Below w1.heap.size w1 WW3 := hB.trans (grown_below hgr hB.size (fun k hk => hro k hk))
            have hO : Hid (WW3.ownsRow w.heap.size 59 3 v3 (l ++ [(a, b, o)]).length (tcells (l ++ [(a, b, o)]))) := Lib.hid (by rw [List.length_append, tcells_app, hll.out]; exact hown)
            clear hown hgr
            refine ⟨⟨⟨_, hB⟩, rfl⟩, ?_⟩
            go_simp
            refine wpC_take (f := 0) (by kernel_rfl) (by kernel_rfl) ⟨⟨_, hB⟩, rfl⟩ [6, 7] _ _ (by kernel_rfl) ?_
            simp only [List.map_cons, List.map_nil, List.getElem?_toArray, List.getElem?_cons_succ, List.getElem?_cons_zero, Option.getD_some]
            repeat (go_big_quiet_step (fail))
            refine wpQuiet_nil ?_
            refine wpC_done (by kernel_rfl) ?_
            go_wp2_with fail
            go_ret2
            exact ⟨⟨_, rfl, hO.out⟩, HB1.out.trans (hB.mono hsw)⟩
        · refine ⟨_, rfl, ?_⟩
          go_simp
          obtain ⟨nb, hnb⟩ : ∃ q, q = w1.heap.size := ⟨_, rfl⟩
          have hu : Bk (w1.alloc (.cells #[.int .i64 a, .int .i64 b, .int .i64 o] 59)).drew nb #[.int .i64 a, .int .i64 b, .int .i64 o] 59 := by rw [hnb]; exact (Bk.new w1 #[.int .i64 a, .int .i64 b, .int .i64 o] 59).later (Below.refl _ _).drew
          have hB : Below w1.heap.size w1 (w1.alloc (.cells #[.int .i64 a, .int .i64 b, .int .i64 o] 59)).drew := ((Below.refl _ w1).alloc (Nat.le_refl _) _).drew
          rw [← hnb]
          have HNB := Lib.hid hnb
          clear hnb
          generalize (w1.alloc (.cells #[.int .i64 a, .int .i64 b, .int .i64 o] 59)).drew = WW0 at *
          refine ⟨⟨⟨_, hB⟩, rfl⟩, ?_⟩
          refine wpC_all (rs := [0]) (by kernel_rfl) (by decide) ?_
          intro i hi
          simp only [List.mem_cons, List.not_mem_nil, or_false] at hi
          subst hi
          refine ⟨_, rfl, ?_⟩
          go_simp
          have ho := World.ownsRow_made (base := w.heap.size) (e := 59) (size := 3) WW0 #[] 0 (Nat.le_trans hsw hB.size) (Nat.zero_le _) rfl
          obtain ⟨g0, hg0⟩ : ∃ q, q = WW0.heap.size := ⟨_, rfl⟩
          have hge0 : w1.heap.size ≤ g0 := by rw [hg0]; exact hB.size
          have hnbl := hu.lt
          replace hu := hu.later ((Below.refl _ WW0).alloc (Nat.le_refl _) (.cells #[] 59))
          have hnb0 : nb ≠ g0 := by have := hnbl; omega
          replace hB : Below w1.heap.size w1 (WW0.alloc (.cells #[] 59)) := hB.alloc hB.size _
          rw [← hg0] at ho ⊢
          generalize WW0.alloc (.cells #[] 59) = WW1 at *
          refine ⟨⟨⟨_, hB⟩, rfl⟩, ?_⟩
          refine wpC_all (rs := [2]) (by kernel_rfl) (by decide) ?_
          intro i hi
          simp only [List.mem_cons, List.not_mem_nil, or_false] at hi
          subst hi
          refine ⟨_, rfl, ?_⟩
          have hsB := hB.size
          refine wp_append_src (.tmp 23) (.tmp 24) 22 rfl w.heap.size 59 j0 (.agg #[.int .i64 0, .int .i64 0, .int .i64 0]) 3 24 Try.underlying22 hJ0.out hJ1.out hJ2.out hJ3.out rfl (by decide) _ 0 [] (by simp [Act.eval, Act.put]) ho (by simp) A len cap (tcells l) (by simp [Act.eval, Act.put]) (by rw [tcells_len, hll.out]) (fun h => HX.out.nil' h) ((HX.out.below (HB1.out.trans (hB.mono hsw))).cellsT) (tcells_one l) (by unfold maxLen; omega) (by omega) (Nat.le_trans hsw hB.size) ?_
          intro g2 cap2 WW2 hown hgr hat
          have hro : ∀ k, (Value.slice (some ⟨g2, 0, none⟩) len cap2).ownBlock = some k → w1.heap.size ≤ k := fun k hk => by
            simp [Value.ownBlock] at hk hat
            omega
          replace hu := hu.grown hgr (by simp [Value.ownBlock]; omega)
          replace hB : Below w1.heap.size w1 WW2 := hB.trans (grown_below hgr hB.size (fun k hk => by simp [Value.ownBlock] at hk; omega))
          replace ho : WW2.ownsRow w.heap.size 59 3 (.slice (some ⟨g2, 0, none⟩) len cap2) len (tcells l) := by simpa using hown
          clear hown hgr hat
          refine ⟨⟨⟨_, hB⟩, rfl⟩, ?_⟩
          rw [Nat.zero_add]
          go_simp
          refine wpC_all (rs := [5]) (by kernel_rfl) (by decide) ?_
          intro i hi
          simp only [List.mem_cons, List.not_mem_nil, or_false] at hi
          subst hi
          refine ⟨_, rfl, ?_⟩
          refine wp_append_own _ (.tmp 25) (.tmp 27) 22 rfl w.heap.size 59 j0 (.agg #[.int .i64 0, .int .i64 0, .int .i64 0]) 3 24 Try.underlying22 hJ0.out hJ1.out hJ2.out hJ3.out rfl (by decide) _ len _ (by simp [Act.eval, Act.put]) ho ⟨nb, 0, none⟩ 1 1 (int3 (a, b, o)) (by simp [Act.eval, Act.put]) rfl hu.news (tone3 _) (by unfold maxLen; omega) (by omega) (Nat.le_trans hsw hB.size) ?_
          intro v3 WW3 hown hgr _
          replace hB : Below w1.heap.size w1 WW3 := hB.trans (grown_below hgr hB.size (fun k hk => hro k hk))
          have hO : Hid (WW3.ownsRow w.heap.size 59 3 v3 (l ++ [(a, b, o)]).length (tcells (l ++ [(a, b, o)]))) := Lib.hid (by rw [List.length_append, tcells_app, hll.out]; exact hown)
          clear hown hgr
          refine ⟨⟨⟨_, hB⟩, rfl⟩, ?_⟩
          go_simp
          refine wpC_take (f := 0) (by kernel_rfl) (by kernel_rfl) ⟨⟨_, hB⟩, rfl⟩ [6, 7] _ _ (by kernel_rfl) ?_
          simp only [List.map_cons, List.map_nil, List.getElem?_toArray, List.getElem?_cons_succ, List.getElem?_cons_zero, Option.getD_some]
          repeat (go_big_quiet_step (fail))
          refine wpQuiet_nil ?_
          refine wpC_done (by kernel_rfl) ?_
          go_wp2_with fail
          go_ret2
          exact ⟨⟨_, rfl, hO.out⟩, HB1.out.trans (hB.mono hsw)⟩
end Go.Proofs.Ytcpnipnaidihaaa
