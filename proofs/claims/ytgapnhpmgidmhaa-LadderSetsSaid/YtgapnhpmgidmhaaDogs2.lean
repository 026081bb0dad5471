/- Dogs: ascending, follows, last, Right of both; the sound joints. -/
import Derived.Test.YtgapnhpmgidmhaaDogs
set_option linter.unusedSimpArgs false
set_option linter.unusedVariables false
namespace Go.Proofs.Ytgapnhpmgidmhaa
open Go.RowKit
attribute [local go_sem] Later.cell

theorem info_int : (Try.prog.info? 3).map (fun i => (i.zero, i.size, i.bytes)) = some (some (.int .i64 0), 1, 8) := by kernel_rfl
theorem news1 (W : World) (x : Value) (t : TypeId) : ∀ j u, ([x] : List Value)[j]? = some u → (W.alloc (.cells #[x] t)).cell? ((⟨W.heap.size, 0, none⟩ : Addr).add j) = some u := by
  intro j u hj
  cases j with
  | zero => simp at hj; subst hj; simp [Addr.add]
  | succ j => simp at hj
theorem one1 (n : Int) : ∀ u ∈ ([.int .i64 n] : List Value), u.oneCell' = true := by intro u hu; simp at hu; subst hu; rfl
theorem own_later {w w' : World} {base : Nat} {e : TypeId} {size : Nat} {v : Value} {n : Nat} {xs : List Value} (h : w.ownsRow base e size v n xs) (hb : Below w.heap.size w w') : w'.ownsRow base e size v n xs := by
  refine h.kept (row := none) ⟨hb.os, hb.tape, hb.output, hb.size, fun k hk _ => hb.block k hk⟩ ?_
  cases v.ownBlock <;> simp
theorem hI_nat (l : List J) (d : Nat) : hI l (d : Int) = hgt l d := by simp [hI]
theorem sI_nat (l : List J) (d : Nat) : sI l (d : Int) = sndB l d := by simp [sI]

set_option maxHeartbeats 1000000 in
theorem valid_any (c : Clb) (A : Option Addr) (len cap : Nat) (l : List J) (w : World) (hm : len ≤ 9223372036854775807) (hx : Rows 2 jointV dJ w w.heap.size A len l) :
    Calls Try.prog 16 #[climbV c, .slice A len cap] w fun e w' => e = .returned (.bool (vC c && vJ l)) ∧ Below w.heap.size w w' := by
  have c1 := fun W => VClimb_any c W
  have c2 := fun W (h : Below w.heap.size w W) => VJoints_any A len cap l W hm ((hx.below h).more h.size)
  generalize vJ l = G at *
  cases hV : vC c
  · rw [hV] at c1
    have C1 := Lib.hid c1
    clear c1 c2 hx hV
    go_enter Try.func16, Try.ntmps16
    go_wp2_with fail
    refine (C1.out _).mono ?_
    rintro e w1 ⟨rfl, hb⟩
    have hB_w1 : Below w.heap.size w w1 := (by repeat (first | exact Below.refl _ _ | assumption | refine Below.setCell ?_ (by first | (simp; done) | (simp; omega) | omega) _ | refine Below.drew ?_ | refine below_drewN ?_ _ | refine Below.alloc ?_ (by first | (simp; done) | (simp; omega) | omega) _ | refine below_alloc ?_ _ | refine below_step ?_ (by assumption))); have hz_w1 := hB_w1.size; clear hb
    go_wp2
    go_ret
    exact ⟨rfl, (by repeat (first | exact Below.refl _ _ | assumption | refine Below.setCell ?_ (by first | (simp; done) | (simp; omega) | omega) _ | refine Below.drew ?_ | refine below_drewN ?_ _ | refine Below.alloc ?_ (by first | (simp; done) | (simp; omega) | omega) _ | refine below_alloc ?_ _ | refine below_step ?_ (by assumption)))⟩
  · rw [hV] at c1
    have C1 := Lib.hid c1
    have C2 := Lib.hid c2
    clear c1 c2 hx hV
    go_enter Try.func16, Try.ntmps16
    go_wp2_with fail
    refine (C1.out _).mono ?_
    rintro e w1 ⟨rfl, hb⟩
    have hB_w1 : Below w.heap.size w w1 := (by repeat (first | exact Below.refl _ _ | assumption | refine Below.setCell ?_ (by first | (simp; done) | (simp; omega) | omega) _ | refine Below.drew ?_ | refine below_drewN ?_ _ | refine Below.alloc ?_ (by first | (simp; done) | (simp; omega) | omega) _ | refine below_alloc ?_ _ | refine below_step ?_ (by assumption))); have hz_w1 := hB_w1.size; clear hb
    go_wp2_with fail
    refine (C2.out _ (by repeat (first | exact Below.refl _ _ | assumption | refine Below.setCell ?_ (by first | (simp; done) | (simp; omega) | omega) _ | refine Below.drew ?_ | refine below_drewN ?_ _ | refine Below.alloc ?_ (by first | (simp; done) | (simp; omega) | omega) _ | refine below_alloc ?_ _ | refine below_step ?_ (by assumption)))).mono ?_
    rintro e w2 ⟨rfl, hb⟩
    have hB_w2 : Below w.heap.size w w2 := (by repeat (first | exact Below.refl _ _ | assumption | refine Below.setCell ?_ (by first | (simp; done) | (simp; omega) | omega) _ | refine Below.drew ?_ | refine below_drewN ?_ _ | refine Below.alloc ?_ (by first | (simp; done) | (simp; omega) | omega) _ | refine below_alloc ?_ _ | refine below_step ?_ (by assumption))); have hz_w2 := hB_w2.size; clear hb
    go_wp2
    go_ret
    exact ⟨by simp, (by repeat (first | exact Below.refl _ _ | assumption | refine Below.setCell ?_ (by first | (simp; done) | (simp; omega) | omega) _ | refine Below.drew ?_ | refine below_drewN ?_ _ | refine Below.alloc ?_ (by first | (simp; done) | (simp; omega) | omega) _ | refine below_alloc ?_ _ | refine below_step ?_ (by assumption)))⟩
set_option maxHeartbeats 1000000 in
theorem bad_any (c : Clb) (A : Option Addr) (len cap : Nat) (l : List J) (w : World) (hm : len ≤ 9223372036854775807) (hx : Rows 2 jointV dJ w w.heap.size A len l) :
    Calls Try.prog 18 #[climbV c, .slice A len cap] w fun e w' => e = .returned (.bool (!(vC c && vJ l))) ∧ Below w.heap.size w w' := by
  have c1 := fun W => rVClimb_any c W
  have c2 := fun W (h : Below w.heap.size w W) => rVJoints_any A len cap l W hm ((hx.below h).more h.size)
  cases hV : vJ l
  · rw [hV] at c2
    have C2 := Lib.hid c2
    clear c1 c2 hx hV
    go_enter Try.func18, Try.ntmps18
    go_wp2_with fail
    refine (C2.out _ (by repeat (first | exact Below.refl _ _ | assumption | refine Below.setCell ?_ (by first | (simp; done) | (simp; omega) | omega) _ | refine Below.drew ?_ | refine below_drewN ?_ _ | refine Below.alloc ?_ (by first | (simp; done) | (simp; omega) | omega) _ | refine below_alloc ?_ _ | refine below_step ?_ (by assumption)))).mono ?_
    rintro e w1 ⟨rfl, hb⟩
    have hB_w1 : Below w.heap.size w w1 := (by repeat (first | exact Below.refl _ _ | assumption | refine Below.setCell ?_ (by first | (simp; done) | (simp; omega) | omega) _ | refine Below.drew ?_ | refine below_drewN ?_ _ | refine Below.alloc ?_ (by first | (simp; done) | (simp; omega) | omega) _ | refine below_alloc ?_ _ | refine below_step ?_ (by assumption))); have hz_w1 := hB_w1.size; clear hb
    go_wp2
    go_ret
    exact ⟨by simp, (by repeat (first | exact Below.refl _ _ | assumption | refine Below.setCell ?_ (by first | (simp; done) | (simp; omega) | omega) _ | refine Below.drew ?_ | refine below_drewN ?_ _ | refine Below.alloc ?_ (by first | (simp; done) | (simp; omega) | omega) _ | refine below_alloc ?_ _ | refine below_step ?_ (by assumption)))⟩
  · rw [hV] at c2
    generalize vC c = V at *
    have C1 := Lib.hid c1
    have C2 := Lib.hid c2
    clear c1 c2 hx hV
    go_enter Try.func18, Try.ntmps18
    go_wp2_with fail
    refine (C2.out _ (by repeat (first | exact Below.refl _ _ | assumption | refine Below.setCell ?_ (by first | (simp; done) | (simp; omega) | omega) _ | refine Below.drew ?_ | refine below_drewN ?_ _ | refine Below.alloc ?_ (by first | (simp; done) | (simp; omega) | omega) _ | refine below_alloc ?_ _ | refine below_step ?_ (by assumption)))).mono ?_
    rintro e w1 ⟨rfl, hb⟩
    have hB_w1 : Below w.heap.size w w1 := (by repeat (first | exact Below.refl _ _ | assumption | refine Below.setCell ?_ (by first | (simp; done) | (simp; omega) | omega) _ | refine Below.drew ?_ | refine below_drewN ?_ _ | refine Below.alloc ?_ (by first | (simp; done) | (simp; omega) | omega) _ | refine below_alloc ?_ _ | refine below_step ?_ (by assumption))); have hz_w1 := hB_w1.size; have hsw10 : w.heap.size < w1.heap.size := Nat.lt_of_lt_of_le (by first | (simp; done) | (simp; omega) | omega) hb.size; have hnw10 : ¬ w.heap.size = w1.heap.size := (by omega); have hmw10 : ¬ w1.heap.size = w.heap.size := (by omega); have hlw10_0 : w.heap.size ≤ w1.heap.size := (by omega); have hlw10_1 : w.heap.size ≤ w1.heap.size + 1 := (by omega); have hlw10_2 : w.heap.size ≤ w1.heap.size + 1 + 1 := (by omega); have hkw10 : w1.cell? ⟨w.heap.size, 0, none⟩ = some (.int .i64 c.fi) := (by rw [hb.cell (p := ⟨w.heap.size, 0, none⟩) (by first | (simp; done) | (simp; omega) | omega)]; first | (go_simp; done) | assumption); have hkw11 : w1.cell? ⟨w.heap.size, 1, none⟩ = some (.int .i64 c.ga) := (by rw [hb.cell (p := ⟨w.heap.size, 1, none⟩) (by first | (simp; done) | (simp; omega) | omega)]; first | (go_simp; done) | assumption); have hkw12 : w1.cell? ⟨w.heap.size, 2, none⟩ = some (.int .i64 c.to) := (by rw [hb.cell (p := ⟨w.heap.size, 2, none⟩) (by first | (simp; done) | (simp; omega) | omega)]; first | (go_simp; done) | assumption); have hkw13 : w1.cell? ⟨w.heap.size, 3, none⟩ = some (.int .i64 c.le) := (by rw [hb.cell (p := ⟨w.heap.size, 3, none⟩) (by first | (simp; done) | (simp; omega) | omega)]; first | (go_simp; done) | assumption); have hkw14 : w1.cell? ⟨w.heap.size, 4, none⟩ = some (.int .i64 c.la) := (by rw [hb.cell (p := ⟨w.heap.size, 4, none⟩) (by first | (simp; done) | (simp; omega) | omega)]; first | (go_simp; done) | assumption); have hkw15 : w1.cell? ⟨w.heap.size, 5, none⟩ = some (.int .i64 c.st) := (by rw [hb.cell (p := ⟨w.heap.size, 5, none⟩) (by first | (simp; done) | (simp; omega) | omega)]; first | (go_simp; done) | assumption); clear hb
    go_wp2_with fail
    refine (C1.out _).mono ?_
    rintro e w2 ⟨rfl, hb⟩
    have hB_w2 : Below w.heap.size w w2 := (by repeat (first | exact Below.refl _ _ | assumption | refine Below.setCell ?_ (by first | (simp; done) | (simp; omega) | omega) _ | refine Below.drew ?_ | refine below_drewN ?_ _ | refine Below.alloc ?_ (by first | (simp; done) | (simp; omega) | omega) _ | refine below_alloc ?_ _ | refine below_step ?_ (by assumption))); have hz_w2 := hB_w2.size; clear hb
    go_wp2
    go_ret
    exact ⟨by simp, (by repeat (first | exact Below.refl _ _ | assumption | refine Below.setCell ?_ (by first | (simp; done) | (simp; omega) | omega) _ | refine Below.drew ?_ | refine below_drewN ?_ _ | refine Below.alloc ?_ (by first | (simp; done) | (simp; omega) | omega) _ | refine below_alloc ?_ _ | refine below_step ?_ (by assumption)))⟩

set_option maxHeartbeats 2000000 in
theorem asc_any (A : Option Addr) (n cap : Nat) (ds : List Int) (len : Nat) (w : World) (hm : n ≤ 9223372036854775807) (hm' : len ≤ 9223372036854775807) (hx : Ints w w.heap.size A n ds) :
    Calls Try.prog 13 #[.slice A n cap, .int .i64 len] w fun e w' => e = .returned (.bool (ascB len ds)) ∧ Below w.heap.size w w' := by
  have HX := Lib.hid hx
  clear hx
  go_enter Try.func13, Try.ntmps13
  go_wp2
  go_loopw [9] (fun i wr => ∃ k : Nat, k ≤ n ∧ i = .int .i64 k ∧ (List.range k).all (ascX len ds) = true ∧ Below w.heap.size w wr) (fun i _ => n - (intOf i).toNat)
  case atStart => exact ⟨0, Nat.zero_le _, rfl, rfl, Below.refl _ _⟩
  case round =>
    obtain ⟨k, hk, rfl, ht, hB⟩ := hrel
    have HT := Lib.hid ht
    have hsz := hB.size
    clear ht
    by_cases hlt : k < n
    · obtain ⟨b, off, rfl, hb0, hc1⟩ := (HX.out.below hB).at_ k hlt
      have hb1 : b < wr.heap.size := by omega
      have HA := Lib.hid (fun hp => range_yes (p := ascX len ds) HT.out hp)
      have HF := Lib.hid (fun hp => range_no (p := ascX len ds) (show k < ds.length by rw [HX.out.1]; exact hlt) hp)
      rcases Nat.eq_zero_or_pos k with rfl | hk0
      · have hu := ascX_zero len ds
        change wr.cell? ⟨b, off + 0, none⟩ = some (.int .i64 (num ds 0)) at hc1
        generalize num ds 0 = X at *
        simp only [Nat.add_zero] at hc1
        by_cases h1 : withinB X 0 ((len : Int) - 1) = true
        · have h4 := Lib.hid (HA.out (hu.trans h1))
          clear hu
          go_wp2_with (go_at_call 26; refine (within_any _ _ _ _).mono ?_; rintro e w' ⟨rfl, rfl⟩)
          go_roundw
          case rel => exact ⟨1, by omega, by go_num, h4.out, (by repeat (first | exact Below.refl _ _ | assumption | refine Below.setCell ?_ (by first | (simp; done) | (simp; omega) | omega) _ | refine Below.drew ?_ | refine below_drewN ?_ _ | refine Below.alloc ?_ (by first | (simp; done) | (simp; omega) | omega) _ | refine below_alloc ?_ _ | refine below_step ?_ (by assumption)))⟩
          case measure => simp [intOf]; omega
        · have h1' : withinB X 0 ((len : Int) - 1) = false := by simpa using h1
          have h4 := Lib.hid (HF.out (hu.trans h1'))
          clear hu h1
          go_wp2_with (go_at_call 26; refine (within_any _ _ _ _).mono ?_; rintro e w' ⟨rfl, rfl⟩)
          go_ret
          exact ⟨ret_bool (by rw [ascB, h4.out]), (by repeat (first | exact Below.refl _ _ | assumption | refine Below.setCell ?_ (by first | (simp; done) | (simp; omega) | omega) _ | refine Below.drew ?_ | refine below_drewN ?_ _ | refine Below.alloc ?_ (by first | (simp; done) | (simp; omega) | omega) _ | refine below_alloc ?_ _ | refine below_step ?_ (by assumption)))⟩
      · obtain ⟨j, rfl⟩ : ∃ j, k = j + 1 := ⟨k - 1, by omega⟩
        obtain ⟨b', off', he, _, hd1⟩ := (HX.out.below hB).at_ j (by omega)
        cases he
        have hu := ascX_succ len ds j
        change wr.cell? ⟨b, off + (j + 1), none⟩ = some (.int .i64 (num ds (j + 1))) at hc1
        change wr.cell? ⟨b, off + j, none⟩ = some (.int .i64 (num ds j)) at hd1
        generalize num ds (j + 1) = X at *
        generalize num ds j = X' at *
        have hj1 : (j : Int) < n := by omega
        have hj2 : (j : Int) + 1 < n := by omega
        have hwj : IntKind.i64.wrap (j : Int) = j := IntWalk.i64_in _ (by omega)
        have hj3 : ¬ n ≤ j := by omega
        have hj4 : j < n := by omega
        by_cases h1 : withinB X 0 ((len : Int) - 1) = true
        · by_cases h5 : X' < X
          · have h4 := Lib.hid (HA.out (hu.trans (by rw [h1, decide_eq_true h5]; rfl)))
            clear hu
            go_wp2_with (go_at_call 26; refine (within_any _ _ _ _).mono ?_; rintro e w' ⟨rfl, rfl⟩)
            go_roundw
            case rel => exact ⟨j + 1 + 1, by omega, by go_num, h4.out, (by repeat (first | exact Below.refl _ _ | assumption | refine Below.setCell ?_ (by first | (simp; done) | (simp; omega) | omega) _ | refine Below.drew ?_ | refine below_drewN ?_ _ | refine Below.alloc ?_ (by first | (simp; done) | (simp; omega) | omega) _ | refine below_alloc ?_ _ | refine below_step ?_ (by assumption)))⟩
            case measure => simp [intOf]; omega
          · have h4 := Lib.hid (HF.out (hu.trans (by rw [h1, decide_eq_false h5]; rfl)))
            clear hu
            go_wp2_with (go_at_call 26; refine (within_any _ _ _ _).mono ?_; rintro e w' ⟨rfl, rfl⟩)
            go_ret
            exact ⟨ret_bool (by rw [ascB, h4.out]), (by repeat (first | exact Below.refl _ _ | assumption | refine Below.setCell ?_ (by first | (simp; done) | (simp; omega) | omega) _ | refine Below.drew ?_ | refine below_drewN ?_ _ | refine Below.alloc ?_ (by first | (simp; done) | (simp; omega) | omega) _ | refine below_alloc ?_ _ | refine below_step ?_ (by assumption)))⟩
        · have h1' : withinB X 0 ((len : Int) - 1) = false := by simpa using h1
          have h4 := Lib.hid (HF.out (hu.trans (by rw [h1']; rfl)))
          clear hu h1
          go_wp2_with (go_at_call 26; refine (within_any _ _ _ _).mono ?_; rintro e w' ⟨rfl, rfl⟩)
          go_ret
          exact ⟨ret_bool (by rw [ascB, h4.out]), (by repeat (first | exact Below.refl _ _ | assumption | refine Below.setCell ?_ (by first | (simp; done) | (simp; omega) | omega) _ | refine Below.drew ?_ | refine below_drewN ?_ _ | refine Below.alloc ?_ (by first | (simp; done) | (simp; omega) | omega) _ | refine below_alloc ?_ _ | refine below_step ?_ (by assumption)))⟩
    · have hfin : Hid (ascB len ds = true) := by
        show _ = _
        have h2 := HT.out
        rw [show k = ds.length by rw [HX.out.1]; omega] at h2
        exact h2
      clear HT
      go_wp2
      go_ret
      exact ⟨ret_bool (by rw [hfin.out]), (by repeat (first | exact Below.refl _ _ | assumption | refine Below.setCell ?_ (by first | (simp; done) | (simp; omega) | omega) _ | refine Below.drew ?_ | refine below_drewN ?_ _ | refine Below.alloc ?_ (by first | (simp; done) | (simp; omega) | omega) _ | refine below_alloc ?_ _ | refine below_step ?_ (by assumption)))⟩

end Go.Proofs.Ytgapnhpmgidmhaa
