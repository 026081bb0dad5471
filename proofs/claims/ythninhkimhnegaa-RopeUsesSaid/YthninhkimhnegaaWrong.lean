/- Ropes: the uses that a rope could not bear: Wrong of both. -/
import Derived.Test.YthninhkimhnegaaRet2
set_option linter.unusedSimpArgs false
set_option linter.unusedVariables false
namespace Go.Proofs.Ythninhkimhnegaa
open Go.RowKit
attribute [local go_sem] Later.cell

theorem info_int : (Try.prog.info? 3).map (fun i => (i.zero, i.size, i.bytes)) = some (some (.int .i64 0), 1, 8) := by kernel_rfl
theorem news1 (W : World) (x : Value) (t : TypeId) : ∀ j u, ([x] : List Value)[j]? = some u → (W.alloc (.cells #[x] t)).cell? ((⟨W.heap.size, 0, none⟩ : Addr).add j) = some u := by
  intro j u hj
  cases j with
  | zero => simp at hj; subst hj; simp [Addr.add]
  | succ j => simp at hj
theorem one1 (n : Int) : ∀ u ∈ ([.int .i64 n] : List Value), u.oneCell' = true := by intro u hu; simp at hu; subst hu; rfl
theorem own_later {w w' : World} {base : Nat} {e : TypeId} {size : Nat} {v : Value} {n : Nat} {xs : List Value} (h : w.ownsRow base e size v n xs) (hb : Below w.heap.size w w') : w'.ownsRow base e size v n xs := by
  refine h.kept (row := none) ⟨hb.os, hb.tape, hb.output, hb.size, fun k hk _ => hb.block k hk⟩ ?_
  cases v.ownBlock <;> simp

def wrongP (s d l : Int) (us : List (Int × Int)) (i : Nat) : Bool := !mayR s d l (us.take i) (us[i]?.getD (0,0)).1 (us[i]?.getD (0,0)).2
def wrongL (s d l : Int) (us : List (Int × Int)) (k : Nat) : List Int := ((List.range k).filter (wrongP s d l us)).map (fun i : Nat => (i : Int))
theorem wrongL_yes {s d l : Int} {us : List (Int × Int)} {k : Nat} (h : wrongP s d l us k = true) : wrongL s d l us (k+1) = wrongL s d l us k ++ [(k : Int)] := by
  simp [wrongL, List.range_succ, List.filter_append, h]
theorem wrongL_no {s d l : Int} {us : List (Int × Int)} {k : Nat} (h : wrongP s d l us k = false) : wrongL s d l us (k+1) = wrongL s d l us k := by
  simp [wrongL, List.range_succ, List.filter_append, h]
theorem wrongL_len (s d l : Int) (us : List (Int × Int)) (k : Nat) : (wrongL s d l us k).length ≤ k := by
  have := List.length_filter_le (wrongP s d l us) (List.range k)
  simpa [wrongL] using this
theorem goodU_take {us : List (Int × Int)} (h : goodU us = true) (k : Nat) (hk : k ≤ us.length) : goodU (us.take k) = true := by
  simp only [goodU, Bool.and_eq_true, List.all_eq_true, decide_eq_true_eq, List.length_take] at *
  refine ⟨fun i hi => ?_, by omega⟩
  have hi' : i < k := by have := List.mem_range.1 hi; omega
  have := h.1 i (List.mem_range.2 (by omega))
  unfold useX at *
  rw [List.getElem?_take, List.getElem?_take, if_pos hi', if_pos (by omega)]
  exact this
noncomputable def wrongRes (s d l : Int) (us : List (Int × Int)) : List Int := if askR s d l us 0 = 0 then wrongL s d l us us.length else []

set_option maxRecDepth 20000 in
set_option maxHeartbeats 2000000 in
theorem Wrong_any (s d l : Int) (A : Option Addr) (len cap : Nat) (us : List (Int × Int)) (w : World) (hm : len ≤ cap ∧ cap ≤ 9223372036854775807) (hx : Pairs w w.heap.size A len us) :
    Calls Try.prog 55 #[.agg #[.int .i64 s, .int .i64 d, .int .i64 l], .slice A len cap] w fun e w' => (∃ B n c, e = .returned (.tuple #[.slice B n c, .int .i64 (askR s d l us 0)]) ∧ (n ≤ c ∧ c ≤ 9223372036854775807) ∧ Ints w' w'.heap.size B n (wrongRes s d l us)) ∧ Below w.heap.size w w' := by
  have c1 := fun W (h : Below w.heap.size w W) => asked_any s d l A len cap us 0 W hm ((hx.below h).more h.size)
  by_cases he : askR s d l us 0 = 0
  · obtain ⟨g1, g2, g3, g4⟩ := ask_spec he
    have hv : wrongRes s d l us = wrongL s d l us us.length := if_pos he
    rw [hv, he]
    rw [he] at c1
    obtain ⟨u1, u2, u3⟩ := goodU_spec g2
    have hlen := hx.1
    have c2 := fun k (hk : k ≤ len) day (h0 : 0 ≤ day) (h1 : day ≤ 100000) W (h : Below w.heap.size w W) => safe_any s d l A k k (us.take k) day W (by omega) (((hx.take k hk).below h).more h.size) g1 (goodU_take g2 k (by omega)) h0 h1
    have hwr : ∀ k, k < len → wrongP s d l us k = decide (safeR s d l (us.take k) (us[k]?.getD (0,0)).1 < (us[k]?.getD (0,0)).2) := by
      intro k hk
      unfold wrongP
      rw [← safe_may (u2 k (by omega)).2.1]
      by_cases h : (us[k]?.getD (0,0)).2 ≤ safeR s d l (us.take k) (us[k]?.getD (0,0)).1
      · rw [decide_eq_true h, decide_eq_false (by omega)]; rfl
      · rw [decide_eq_false h, decide_eq_true (by omega)]; rfl
    have hsb : ∀ k, k < len → -1 ≤ safeR s d l (us.take k) (us[k]?.getD (0,0)).1 ∧ safeR s d l (us.take k) (us[k]?.getD (0,0)).1 ≤ 1000000 := by
      intro k hk
      obtain ⟨⟨r1, r2⟩, ⟨r3, r4⟩, r5, r6⟩ := goodR_spec g1
      have hb := leftR_bd' (d := d) r1 r3 (goodU_take g2 k (by omega)) (u2 k (by omega)).1.1
      unfold safeR
      generalize leftR s d (us.take k) (us[k]?.getD (0,0)).1 = L at *
      have hp : 0 ≤ s * L ∧ s * L ≤ 1000000 * 1000 := ⟨Int.mul_nonneg (by omega) hb.1, Int.mul_le_mul r2 hb.2 hb.1 (by decide)⟩
      split <;> omega
    have HX := Lib.hid hx
    have C1 := Lib.hid c1
    have C2 := Lib.hid c2
    have HW := Lib.hid hwr
    have HU := Lib.hid u2
    have HSB := Lib.hid hsb
    obtain ⟨i0, hi, hz0, hz1, hz2⟩ := info_parts info_int
    have hI0 := Lib.hid hi
    have hI1 := Lib.hid hz0
    have hI2 := Lib.hid hz1
    have hI3 := Lib.hid hz2
    clear hi hz0 hz1 hz2 c1 c2 hwr hsb u2 u3 hx hv g1 g2 he
    go_enter Try.func55, Try.ntmps55
    go_wp2_with fail
    refine (C1.out _ (by repeat (first | exact Below.refl _ _ | assumption | refine Below.setCell ?_ (by first | (simp; done) | (simp; omega) | omega) _ | refine Below.drew ?_ | refine below_drewN ?_ _ | refine Below.alloc ?_ (by first | (simp; done) | (simp; omega) | omega) _ | refine below_alloc ?_ _ | refine below_step ?_ (by assumption)))).mono ?_
    rintro e w1 ⟨rfl, hb⟩
    have hB_w1 : Below w.heap.size w w1 := (by repeat (first | exact Below.refl _ _ | assumption | refine Below.setCell ?_ (by first | (simp; done) | (simp; omega) | omega) _ | refine Below.drew ?_ | refine below_drewN ?_ _ | refine Below.alloc ?_ (by first | (simp; done) | (simp; omega) | omega) _ | refine below_alloc ?_ _ | refine below_step ?_ (by assumption))); have hz_w1 := hB_w1.size; have hsw10 : w.heap.size < w1.heap.size := Nat.lt_of_lt_of_le (by first | (simp; done) | (simp; omega) | omega) hb.size; have hnw10 : ¬ w.heap.size = w1.heap.size := (by omega); have hmw10 : ¬ w1.heap.size = w.heap.size := (by omega); have hlw10_0 : w.heap.size ≤ w1.heap.size := (by omega); have hlw10_1 : w.heap.size ≤ w1.heap.size + 1 := (by omega); have hlw10_2 : w.heap.size ≤ w1.heap.size + 1 + 1 := (by omega); have hkw10 : w1.cell? ⟨w.heap.size, 0, none⟩ = some (.int .i64 s) := (by rw [hb.cell (p := ⟨w.heap.size, 0, none⟩) (by first | (simp; done) | (simp; omega) | omega)]; first | (go_simp; done) | assumption); have hkw11 : w1.cell? ⟨w.heap.size, 1, none⟩ = some (.int .i64 d) := (by rw [hb.cell (p := ⟨w.heap.size, 1, none⟩) (by first | (simp; done) | (simp; omega) | omega)]; first | (go_simp; done) | assumption); have hkw12 : w1.cell? ⟨w.heap.size, 2, none⟩ = some (.int .i64 l) := (by rw [hb.cell (p := ⟨w.heap.size, 2, none⟩) (by first | (simp; done) | (simp; omega) | omega)]; first | (go_simp; done) | assumption); clear hb
    go_wp2
    go_loopw [7, 18] (fun v i wr => ∃ k : Nat, k ≤ len ∧ i = .int .i64 k ∧ wr.ownsRow w1.heap.size 3 1 v (wrongL s d l us k).length (icells (wrongL s d l us k)) ∧ Below w1.heap.size w1 wr) (fun _ i _ => len - (intOf i).toNat)
    case atStart => exact ⟨0, Nat.zero_le _, rfl, (by exact World.ownsRow_nil w1 _ _ _ : w1.ownsRow w1.heap.size 3 1 (.slice none 0 0) ([] : List Int).length (icells [])), Below.refl _ _⟩
    case round =>
      obtain ⟨k, hk, rfl, hown, hb⟩ := hrel
      have hb' := hb
      have hbs := hb.size
      have hL := wrongL_len s d l us k
      by_cases hlt : k < len
      · obtain ⟨b, off, rfl, hb0, hc1, hc2⟩ := ((HX.out.below hB_w1).below (hb.mono hz_w1)).at_ k hlt
        have hB_wr : Below w.heap.size w wr := (by repeat (first | exact Below.refl _ _ | assumption | refine Below.setCell ?_ (by first | (simp; done) | (simp; omega) | omega) _ | refine Below.drew ?_ | refine below_drewN ?_ _ | refine Below.alloc ?_ (by first | (simp; done) | (simp; omega) | omega) _ | refine below_alloc ?_ _ | refine below_step ?_ (by assumption))); have hz_wr := hB_wr.size; have hswr0 : w.heap.size < wr.heap.size := Nat.lt_of_lt_of_le (by first | (simp; done) | (simp; omega) | omega) hb.size; have hnwr0 : ¬ w.heap.size = wr.heap.size := (by omega); have hmwr0 : ¬ wr.heap.size = w.heap.size := (by omega); have hlwr0_0 : w.heap.size ≤ wr.heap.size := (by omega); have hlwr0_1 : w.heap.size ≤ wr.heap.size + 1 := (by omega); have hlwr0_2 : w.heap.size ≤ wr.heap.size + 1 + 1 := (by omega); have hkwr0 : wr.cell? ⟨w.heap.size, 0, none⟩ = some (.int .i64 s) := (by rw [hb.cell (p := ⟨w.heap.size, 0, none⟩) (by first | (simp; done) | (simp; omega) | omega)]; first | (go_simp; done) | assumption); have hkwr1 : wr.cell? ⟨w.heap.size, 1, none⟩ = some (.int .i64 d) := (by rw [hb.cell (p := ⟨w.heap.size, 1, none⟩) (by first | (simp; done) | (simp; omega) | omega)]; first | (go_simp; done) | assumption); have hkwr2 : wr.cell? ⟨w.heap.size, 2, none⟩ = some (.int .i64 l) := (by rw [hb.cell (p := ⟨w.heap.size, 2, none⟩) (by first | (simp; done) | (simp; omega) | omega)]; first | (go_simp; done) | assumption); clear hb hB_w1 hlw10_0 hlw10_1 hlw10_2 hkw10 hkw11 hkw12
        have hbl : b < wr.heap.size := by omega
        have hu := HU.out k (by omega)
        have hw := HW.out k hlt
        have hsb := HSB.out k hlt
        have c3 := C2.out k hk _ hu.1.1 hu.1.2
        have hy := Lib.hid (wrongL_yes (s := s) (d := d) (l := l) (us := us) (k := k))
        have hn := Lib.hid (wrongL_no (s := s) (d := d) (l := l) (us := us) (k := k))
        generalize safeR s d l (us.take k) (us[k]?.getD (0,0)).1 = S at *
        generalize us[k]?.getD (0,0) = X at *
        obtain ⟨X, Y⟩ := X
        dsimp only at hc1 hc2 hw c3 hu
        generalize wrongL s d l us k = R1 at *
        have C3 := Lib.hid c3
        have HO := Lib.hid hown
        clear c3 hown
        have hkc1 : (k : Int) ≤ cap := by omega
        have hkc2 : ¬ cap < k := by omega
        by_cases hS : S < Y
        · have hR := Lib.hid (hy.out (by rw [hw]; exact decide_eq_true hS))
          clear hw hy hn
          go_wp2
          (refine wp_region_later (by kernel_rfl) (by kernel_rfl) ?_; (repeat (go_big_quiet_step ((go_at_call 76; exact later_call (C3.out _ (hB_wr.trans (((Below.refl _ wr).alloc (Nat.le_refl _) _).trans ((‹Later (wr.alloc _)›).h.mono (by simp)) |>.mono hz_wr))))))); refine wpQuiet_nil ?_)
          intro w4 hb
          have hb4 : Below wr.heap.size wr w4 := ((Below.refl _ wr).alloc (Nat.le_refl _) _).trans (hb.mono (by simp))
          have HO4 := Lib.hid (own_later HO.out hb4)
          have hb5 := hb'.trans (hb4.mono hbs)
          have hz4 : w1.heap.size ≤ w4.heap.size := hb5.size
          go_wp2_with (at_builtin; go_loud (refine wpList_append_own _ rfl (.tmp 35) (.tmp 37) 70 rfl w1.heap.size 3 i0 (.int .i64 0) 1 8 Try.underlying70 hI0.out hI1.out hI2.out hI3.out rfl (by decide) _ _ _ rfl (HO4.out.alloc _) ⟨w4.heap.size, 0, none⟩ 1 1 [.int .i64 (k : Int)] rfl rfl (news1 _ _ _) (one1 _) (by unfold maxLen; omega) (by omega) (by simp; omega) ?_))
          intro v' w5 hown' hgrow _
          have hb6 : Below w1.heap.size w1 w5 := hb5.trans ((Below.alloc (Below.refl _ _) hz4 _).trans (grown_below hgrow (by simp; omega) (fun q hq => (HO4.out.lt q hq).1)))
          have HO5 : Hid (w5.ownsRow w1.heap.size 3 1 v' (R1 ++ [(k:Int)]).length (icells (R1 ++ [(k:Int)]))) := by
            rw [List.length_append, icells_app]; exact hown'
          clear hown' hgrow
          go_wp2
          go_roundw
          case rel => exact ⟨k + 1, by omega, by go_num, by rw [hR.out]; exact HO5.out, hb6⟩
          case measure => simp [intOf]; omega
        · have hR := Lib.hid (hn.out (by rw [hw]; exact decide_eq_false hS))
          clear hw hy hn
          go_wp2
          (refine wp_region_later (by kernel_rfl) (by kernel_rfl) ?_; (repeat (go_big_quiet_step ((go_at_call 76; exact later_call (C3.out _ (hB_wr.trans (((Below.refl _ wr).alloc (Nat.le_refl _) _).trans ((‹Later (wr.alloc _)›).h.mono (by simp)) |>.mono hz_wr))))))); refine wpQuiet_nil ?_)
          intro w4 hb
          have hb4 : Below wr.heap.size wr w4 := ((Below.refl _ wr).alloc (Nat.le_refl _) _).trans (hb.mono (by simp))
          have HO4 := Lib.hid (own_later HO.out hb4)
          have hb5 := hb'.trans (hb4.mono hbs)
          go_wp2
          go_roundw
          case rel => exact ⟨k + 1, by omega, by go_num, by rw [hR.out]; exact HO4.out, hb5⟩
          case measure => simp [intOf]; omega
      · have hkl : k = us.length := by omega
        obtain ⟨B, c, rfl, o1, o2, o3, _⟩ := own_ints hown
        have O3 := Lib.hid o3
        clear o3 hown
        rw [hkl] at O3 o1 ⊢
        go_wp2
        go_ret2
        exact ⟨⟨B, _, c, rfl, ⟨o1, by unfold maxLen at o2; omega⟩, O3.out⟩, hB_w1.trans (hb.mono hz_w1)⟩
  · have hv : wrongRes s d l us = [] := if_neg he
    rw [hv]
    generalize askR s d l us 0 = E at *
    have he' : (E == 0) = false := by simpa using he
    have C1 := Lib.hid c1
    clear c1 hx hv he
    go_enter Try.func55, Try.ntmps55
    go_wp2_with fail
    refine (C1.out _ (by repeat (first | exact Below.refl _ _ | assumption | refine Below.setCell ?_ (by first | (simp; done) | (simp; omega) | omega) _ | refine Below.drew ?_ | refine below_drewN ?_ _ | refine Below.alloc ?_ (by first | (simp; done) | (simp; omega) | omega) _ | refine below_alloc ?_ _ | refine below_step ?_ (by assumption)))).mono ?_
    rintro e w1 ⟨rfl, hb⟩
    have hB_w1 : Below w.heap.size w w1 := (by repeat (first | exact Below.refl _ _ | assumption | refine Below.setCell ?_ (by first | (simp; done) | (simp; omega) | omega) _ | refine Below.drew ?_ | refine below_drewN ?_ _ | refine Below.alloc ?_ (by first | (simp; done) | (simp; omega) | omega) _ | refine below_alloc ?_ _ | refine below_step ?_ (by assumption))); have hz_w1 := hB_w1.size; clear hb
    go_wp2
    go_ret2
    exact ⟨⟨none, 0, 0, rfl, ⟨by omega, by omega⟩, rfl, fun h => absurd h (by omega)⟩, (by repeat (first | exact Below.refl _ _ | assumption | refine Below.setCell ?_ (by first | (simp; done) | (simp; omega) | omega) _ | refine Below.drew ?_ | refine below_drewN ?_ _ | refine Below.alloc ?_ (by first | (simp; done) | (simp; omega) | omega) _ | refine below_alloc ?_ _ | refine below_step ?_ (by assumption)))⟩
end Go.Proofs.Ythninhkimhnegaa
