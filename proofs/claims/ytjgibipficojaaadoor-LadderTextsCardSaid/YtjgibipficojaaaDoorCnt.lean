/- Dogs: the program's map of counts. -/
import Derived.Test.YtjgibipficojaaaDoorSnd
import Derived.Test.YtjgibipficojaaaDoorCntM
import Derived.Maps.RangeWalk
set_option linter.unusedSimpArgs false
set_option linter.unusedVariables false
namespace Go.Proofs.YtjgibipficojaaaDoor
open Go.RowKit Go.Maps
attribute [local go_sem] Later.cell

theorem cell_block {w w' : World} {b : Nat} (e : w'.heap[b]? = w.heap[b]?) (o : Nat) : w'.cell? ⟨b, o, none⟩ = w.cell? ⟨b, o, none⟩ := by simp [World.cell?, e]
theorem frozen_block {w w' : World} {b : Nat} (e : w'.heap[b]? = w.heap[b]?) (o : Nat) : w'.frozen? ⟨b, o, none⟩ = w.frozen? ⟨b, o, none⟩ := by simp [World.frozen?, e]
/-- A climb lies in the block b. -/
def ClimbAt (w : World) (b : Nat) (c : Clb) : Prop :=
  w.cell? ⟨b, 0, none⟩ = some (.int .i64 c.fi) ∧ w.cell? ⟨b, 1, none⟩ = some (.int .i64 c.ga) ∧ w.cell? ⟨b, 2, none⟩ = some (.int .i64 c.to) ∧ w.cell? ⟨b, 3, none⟩ = some (.int .i64 c.le) ∧ w.cell? ⟨b, 4, none⟩ = some (.int .i64 c.la) ∧ w.cell? ⟨b, 5, none⟩ = some (.int .i64 c.st)
theorem ClimbAt.block {w w' : World} {b : Nat} {c : Clb} (h : ClimbAt w b c) (e : w'.heap[b]? = w.heap[b]?) : ClimbAt w' b c := by
  obtain ⟨h0, h1, h2, h3, h4, h5⟩ := h
  exact ⟨by rw [cell_block e]; exact h0, by rw [cell_block e]; exact h1, by rw [cell_block e]; exact h2, by rw [cell_block e]; exact h3, by rw [cell_block e]; exact h4, by rw [cell_block e]; exact h5⟩
theorem climbAt_box (w : World) (c : Clb) (t : TypeId) : ClimbAt (w.alloc (.cells #[.int .i64 c.fi, .int .i64 c.ga, .int .i64 c.to, .int .i64 c.le, .int .i64 c.la, .int .i64 c.st] t)) w.heap.size c :=
  ⟨by go_simp, by go_simp, by go_simp, by go_simp, by go_simp, by go_simp⟩
theorem Ints.grown {w w' : World} {B mb : Nat} {A : Option Addr} {len : Nat} {xs : List Int} (h : Ints w B A len xs) (hg : w.grownBy w' (some mb)) (hB : B ≤ w.heap.size) (hne : ∀ b off, 0 < len → A = some ⟨b, off, none⟩ → b ≠ mb) : Ints w' B A len xs := by
  refine ⟨h.1, fun h0 => ?_⟩
  obtain ⟨b, off, h1, h2, h3⟩ := h.2 h0
  refine ⟨b, off, h1, h2, fun k hk => ?_⟩
  rw [cell_block (hg.block b (by omega) (by intro e; exact hne b off h0 h1 (by injection e)))]
  exact h3 k hk
theorem MapV.block {κ ε : Type} {P : Program} {k e : TypeId} {kl : κ → Lit} {el : ε → Lit} {z : ε} {w w' : World} {b n : Nat} {M : κ → Option ε} (h : MapV P k e kl el z w b n M) (hb : w'.heap[b]? = w.heap[b]?) : MapV P k e kl el z w' b n M := by
  obtain ⟨D, ⟨es, clock, h1, h2⟩, h3⟩ := h
  exact ⟨D, ⟨es, clock, by rw [hb]; exact h1, h2⟩, h3⟩
theorem below_grown {w w' : World} (h : Below w.heap.size w w') (row : Option Nat) : w.grownBy w' row := ⟨h.os, h.tape, h.output, h.size, fun k hk _ => h.block k hk⟩
theorem sndI_rev (l : List J) : (sndI l l.length).reverse = (sndRv l).map fun k : Nat => (k : Int) := by simp [sndI, sndRv, List.map_reverse]
theorem cast_at {s : List Nat} {p D : Nat} (h : s[p]? = some D) : (s.map fun k : Nat => (k : Int))[p]?.getD 0 = (D : Int) := by
  rw [List.getElem?_map, h]; rfl
theorem lawI : Keyed Tryd.prog 3 := int_keyed Tryd.underlying3
theorem zeroI (w : World) : (zeroValue 3).run Tryd.prog w = .ok (.int .i64 0) w := by kernel_rfl
abbrev MapI (w : World) (b n : Nat) (M : Int → Option Int) : Prop := MapV Tryd.prog 3 3 ilit ilit 0 w b n M

/-- What holds behind p joints. -/
def OutR (c : Clb) (l : List J) (w w2 : World) (n : Nat) (i : Value) (wr : World) : Prop :=
  ∃ p m : Nat, p ≤ n ∧ i = .int .i64 p ∧ m ≤ p * 300 ∧ Hid (MapI wr (w.heap.size + 1) m (mapP c l p)) ∧ w2.grownBy wr (some (w.heap.size + 1))
theorem OutR.mk {c : Clb} {l : List J} {w w2 : World} {n : Nat} {i : Value} {wr : World} (p m : Nat) (h1 : p ≤ n) (h2 : i = .int .i64 p) (h3 : m ≤ p * 300) (h4 : Hid (MapI wr (w.heap.size + 1) m (mapP c l p))) (h5 : w2.grownBy wr (some (w.heap.size + 1))) : OutR c l w w2 n i wr := ⟨p, m, h1, h2, h3, h4, h5⟩
/-- What holds behind r of the later joints. -/
def InnR (c : Clb) (l : List J) (w w2 : World) (p D : Nat) (i : Value) (wr : World) : Prop :=
  ∃ r m a : Nat, r ≤ p ∧ i = .int .i64 r ∧ m ≤ p * 300 + 1 + r ∧ Hid (MapI wr (w.heap.size + 1) m (accM (mapP c l p) D a)) ∧ Hid (CntAt c l D r a) ∧ w2.grownBy wr (some (w.heap.size + 1))
theorem InnR.mk {c : Clb} {l : List J} {w w2 : World} {p D : Nat} {i : Value} {wr : World} (r m a : Nat) (h1 : r ≤ p) (h2 : i = .int .i64 r) (h3 : m ≤ p * 300 + 1 + r) (h4 : Hid (MapI wr (w.heap.size + 1) m (accM (mapP c l p) D a))) (h5 : Hid (CntAt c l D r a)) (h6 : w2.grownBy wr (some (w.heap.size + 1))) : InnR c l w w2 p D i wr := ⟨r, m, a, h1, h2, h3, h4, h5, h6⟩
set_option maxRecDepth 20000 in
set_option maxHeartbeats 8000000 in
theorem counts_any (c : Clb) (A : Option Addr) (len cap : Nat) (l : List J) (w : World) (hv1 : vC c = true) (hv2 : vJ l = true) (hx : Rows 2 jointV dJ w w.heap.size A len l) :
    Calls Tryd.prog 27 #[climbV c, .slice A len cap] w fun e w' => (∃ b m, e = .returned (.map (some b)) ∧ MapI w' b m (needM c l) ∧ w.heap.size ≤ b) ∧ Below w.heap.size w w' := by
  have hvc := vC_spec hv1
  have hvj := vJ_spec hv2
  rw [hx.1] at hvj
  have hlen2 : len ≤ 200 := hvj.1
  have hga := hvc.2.1
  have c1 := fun W (h : Below w.heap.size w W) => sound_any A len cap l W (by omega) ((hx.below h).more h.size)
  have c2 := fun h s W (hh : 1 ≤ h ∧ h ≤ 200000) => last_any c h s W hh hga
  have c3 := fun b D W (h : Below w.heap.size w W) (hb : b < (len : Int)) (hD : D < len) => follows_any c A len cap l b D W (by omega) ((hx.below h).more h.size) hvj.2.1 hb hD
  have C1 := Lib.hid c1
  have C2 := Lib.hid c2
  have C3 := Lib.hid c3
  have HX := Lib.hid hx
  have HVJ := Lib.hid hvj
  have hmm := @run_makeMap Tryd.prog
  clear c1 c2 c3 hx hvj hvc hv1 hv2
  go_enter Tryd.func27, Tryd.ntmps27
  go_wp2_with fail
  refine (C1.out _ (by repeat (first | exact Below.refl _ _ | assumption | refine Below.setCell ?_ (by first | (simp; done) | (simp; omega) | omega) _ | refine Below.drew ?_ | refine below_drewN ?_ _ | refine Below.alloc ?_ (by first | (simp; done) | (simp; omega) | omega) _ | refine below_alloc ?_ _ | refine below_step ?_ (by assumption)))).mono ?_
  rintro e w1 ⟨⟨v, rfl, ho⟩, hb⟩
  obtain ⟨A1, cap1, rfl, hn1, hn2, -, hg1⟩ := own_ints ho
  have hol : sndI l len = sndI l l.length := by rw [HX.out.1]
  rw [hol] at ho hn1 hg1 ⊢
  clear hol
  have hM0 : MapI ((w.alloc (.cells #[.int .i64 c.fi, .int .i64 c.ga, .int .i64 c.to, .int .i64 c.le, .int .i64 c.la, .int .i64 c.st] 37)).alloc (.map #[] 0)) (w.heap.size + 1) 0 (fun _ => none) := by
    have h := mapv_made (w.alloc (.cells #[.int .i64 c.fi, .int .i64 c.ga, .int .i64 c.to, .int .i64 c.le, .int .i64 c.la, .int .i64 c.st] 37)) Tryd.prog 3 3 ilit ilit 0
    have e : (w.alloc (.cells #[.int .i64 c.fi, .int .i64 c.ga, .int .i64 c.to, .int .i64 c.le, .int .i64 c.la, .int .i64 c.st] 37)).heap.size = w.heap.size + 1 := by simp
    rw [e] at h
    exact h
  have hC0 : ClimbAt ((w.alloc (.cells #[.int .i64 c.fi, .int .i64 c.ga, .int .i64 c.to, .int .i64 c.le, .int .i64 c.la, .int .i64 c.st] 37)).alloc (.map #[] 0)) w.heap.size c :=
    (climbAt_box w c _).block ((Below.alloc (Below.refl _ _) (Nat.le_refl _) _).block w.heap.size (by simp))
  have hM1 := hM0.block (hb.block (w.heap.size + 1) (by simp))
  have hC1 := hC0.block (hb.block w.heap.size (by first | (simp; done) | (simp; omega) | omega))
  have hB1 : Below w.heap.size w w1 := (by repeat (first | exact Below.refl _ _ | assumption | refine Below.setCell ?_ (by first | (simp; done) | (simp; omega) | omega) _ | refine Below.drew ?_ | refine below_drewN ?_ _ | refine Below.alloc ?_ (by first | (simp; done) | (simp; omega) | omega) _ | refine below_alloc ?_ _ | refine below_step ?_ (by assumption)))
  have hs1 := hb.size
  simp only [World.size_alloc] at hs1
  go_wp2_with fail
  refine (rev_any A1 _ cap1 _ 3 _ _ ho (by unfold maxLen at hn2; omega)).mono ?_
  rintro e w2 ⟨rfl, hI, hb2⟩
  rw [sndI_rev] at hI
  have hN : (sndI l l.length).length = (sndRv l).length := by
    have := congrArg List.length (sndI_rev l); simpa using this
  have hNl : (sndRv l).length ≤ len := by rw [← hN, HX.out.1]; exact sndI_len l len
  rw [hN] at hI hg1 hn1 ⊢
  have hM2 := hM1.block (hb2.block (w.heap.size + 1) (by simp))
  have hC2 := hC1.block (hb2.block w.heap.size (by first | (simp; done) | (simp; omega) | omega))
  have hB2 : Below w.heap.size w w2 := hB1.trans (hb2.mono (by first | (simp; done) | (simp; omega) | omega))
  have hs2 : w.heap.size + 1 + 1 ≤ w2.heap.size := Nat.le_trans hs1 (by have := hb2.size; first | omega | (simp at this; omega))
  have hne : ∀ b off, 0 < (sndRv l).length → A1 = some ⟨b, off, none⟩ → b ≠ w.heap.size + 1 := fun b off h0 h1 => by
    obtain ⟨g, h2, h3, _⟩ := hg1 h0
    rw [h1] at h2
    injection h2 with h2
    injection h2 with h4 h5 h6
    simp at h3
    omega
  rw [← mapP_zero c l] at hM2
  have HM0 := Lib.hid hM2
  have HC := Lib.hid hC2
  have HI := Lib.hid hI
  have HNE := Lib.hid hne
  clear ho hb hg1 hM0 hC0 hM1 hC1 hM2 hC2 hB1 hb2 hI hne hmm hN
  go_wp2_with fail
  generalize hnn : (sndRv l).length = n at *
  have HNN := Lib.hid hnn
  clear hnn
  go_loopw [20] (fun i wr => OutR c l w w2 n i wr) (fun i _ => n - (intOf i).toNat)
  case atStart => exact OutR.mk 0 0 (Nat.zero_le _) rfl (by omega) HM0 (below_grown (Below.refl _ _) _)
  case round =>
    obtain ⟨p, m, hp, rfl, hm, HM, hg⟩ := hrel
    have hBr : Below w.heap.size w wr := hB2.trans (grown_below hg (by omega) (fun k hk => by injection hk; omega))
    have hsr := hg.size
    obtain ⟨q0, q1, q2, q3, q4, q5⟩ := HC.out.block (hg.block w.heap.size (by omega) (by simp))
    by_cases hlt : p < n
    · obtain ⟨D, hD⟩ : ∃ D, (sndRv l)[p]? = some D := ⟨_, List.getElem?_eq_getElem (by rw [HNN.out]; exact hlt)⟩
      have hDm := mem_sndRv.1 (List.mem_iff_getElem?.2 ⟨p, hD⟩)
      rw [HX.out.1] at hDm
      have hDl := hDm.1
      obtain ⟨b, off, hA1, hb0, hc0⟩ := (HI.out.grown hg (Nat.le_refl _) (fun b off h0 h1 => HNE.out b off h0 h1)).at_ p hlt
      have hbne := HNE.out b off (by omega) hA1
      rw [cast_at hD] at hc0
      subst hA1
      obtain ⟨b2, off2, rfl, hb2, hj1, hj2⟩ := (HX.out.below hBr).atJ D hDl
      have hbh := HVJ.out.2.1 D hDl
      have c4 := fun W => C2.out (hgt l D) (sndB l D) W hbh
      have hcz := CntAt.zero (c := c) (l := l) (D := D)
      have hco := CntAt.one (c := c) (l := l) (D := D)
      have HCZ := Lib.hid hcz
      have HCO := Lib.hid hco
      generalize hX : hgt l D = X at *
      generalize sndB l D = Y at *
      have hb1 : b < wr.heap.size := by omega
      have hb3 : b2 < wr.heap.size := by omega
      have hD1 : (D : Int) < len := by omega
      have hD2 : ¬ len ≤ D := by omega
      have hw1 : w.heap.size < wr.heap.size := by omega
      have HAC := Lib.hid (mapP_acc (c := c) hD)
      clear hcz hco hDm
      by_cases hla : c.to ≤ X + c.ga
      · rw [decide_eq_true hla] at c4
        have C4 := Lib.hid c4
        clear c4
        go_wp2
        (refine wp_region_later (by kernel_rfl) (by kernel_rfl) ?_; (repeat (go_big_quiet_step ((go_at_call 34; exact later_call (C4.out _))))); refine wpQuiet_nil ?_)
        intro w3 hb
        have hB3 : Below w.heap.size w w3 := hBr.trans (hb.mono (by omega))
        have hg3 : w2.grownBy w3 (some (w.heap.size + 1)) := hg.andThen (below_grown hb none) (fun j hj => by cases hj)
        have HM3 := Lib.hid (HM.out.block (hb.block (w.heap.size + 1) (by omega)))
        have hs3 := hb.size
        clear hg hj1 hj2 hc0 q0 q1 q2 q3 q4 q5
        go_wp2_with (at_mapUpdate; refine wpList_mapv_put (κ := Int) rfl (.tmp 31) (.tmp 32) (.const (.int .i64 1)) 58 rfl lawI Tryd.underlying58 (fun _ _ => ilit_inj) (fun _ => trivial) rfl HM3.out (by unfold maxLen; omega) (D : Int) 1 _ _ rfl rfl (keyOf_int_mk Tryd.underlying3 (WalkArith.wf_i64 (by omega))) (plainElem_int Tryd.underlying3 (by decide)) ?_; intro w4 hM4 hg4; go_frame)
        have HM4 : Hid (MapI w4 (w.heap.size + 1) (m + 1) (accM (mapP c l p) D 1)) := Lib.hid (by
          have := acc_upd (mapP c l p) D 0 1 (by omega)
          rw [HAC.out] at this
          rw [← this]; exact hM4)
        have hg5 : w2.grownBy w4 (some (w.heap.size + 1)) := hg3.andThen hg4 (fun j hj => by injection hj with hj; right; rw [hj])
        have HCA : Hid (CntAt c l D 0 1) := Lib.hid (HCO.out hla)
        clear hM4 hg4
        try go_wp2
        go_loopw [37] (fun i wr => InnR c l w w2 p D i wr) (fun i _ => p - (intOf i).toNat)
        case atStart => exact InnR.mk 0 (m + 1) 1 (Nat.zero_le _) rfl (by omega) HM4 HCA hg5
        case round =>
          obtain ⟨r, m', a, hr, rfl, hm', HMR, HCR, hg⟩ := hrel
          have hBr : Below w.heap.size w wr := hB2.trans (grown_below hg (by omega) (fun k hk => by injection hk; omega))
          have hsr := hg.size
          by_cases hrt : r < p
          · obtain ⟨K, hK⟩ : ∃ K, (sndRv l)[r]? = some K := ⟨_, List.getElem?_eq_getElem (by rw [HNN.out]; omega)⟩
            obtain ⟨hmk, hDK, hKl⟩ := acc_other (c := c) (a := a) hD hK hrt
            rw [HX.out.1] at hKl
            obtain ⟨b', off', he, _, hc0⟩ := (HI.out.grown hg (Nat.le_refl _) (fun b off h0 h1 => HNE.out b off h0 h1)).at_ r (by omega)
            cases he
            rw [cast_at hK] at hc0
            obtain ⟨q0, q1, q2, q3, q4, q5⟩ := HC.out.block (hg.block w.heap.size (by omega) (by simp))
            have c5 := fun W (h : Below w.heap.size w W) => C3.out D K W h (by omega) hKl
            have hfd : folB c l D K = decide (hgt l K - X ≤ c.ga) := by rw [folB_nat, decide_eq_true hDK, hX]; rfl
            rw [hfd] at c5
            have hsk := fun h => HCR.out.skip hK h
            have hlw := fun h1 h2 h3 => HCR.out.low hK h1 h2 h3
            have hst := fun h1 h2 => HCR.out.stay hK h1 h2
            rw [hX] at hsk hlw hst
            have hNb := need_bd c l K
            rw [HX.out.1] at hNb
            have hab := HCR.out.le
            rw [HX.out.1] at hab
            have hgetK : ((accM (mapP c l p) (D : Int) a) (K : Int)).getD 0 = need c l K := by rw [hmk, needM_get]
            have hsomK : ((accM (mapP c l p) (D : Int) a) (K : Int)).isSome = decide (0 < need c l K) := by rw [hmk, needM_some]
            have hgetD := acc_same (mapP c l p) (D : Int) a
            have hup := fun v hv => acc_upd (mapP c l p) (D : Int) a v hv
            have HGK := Lib.hid hgetK
            have HSK := Lib.hid hsomK
            have HGD := Lib.hid hgetD
            have HUP := Lib.hid hup
            have HS1 := Lib.hid hsk
            have HS2 := Lib.hid hlw
            have HS3 := Lib.hid hst
            have C5 := Lib.hid c5
            generalize need c l K = N at *
            generalize hgt l K = XK at *
            have hb1' : b < wr.heap.size := by omega
            have hwr1 : w.heap.size < wr.heap.size := by omega
            clear c5 hfd hsk hlw hst hgetK hsomK hgetD hup hmk
            have hr1 : (r : Int) < p := by omega
            have hr2 : ¬ p ≤ r := by omega
            by_cases hN0 : N = 0
            · have hN1 : decide (0 < N) = false := decide_eq_false (by omega)
              have h4 := Lib.hid (HS1.out (.inl hN0))
              go_wp2_with (at_lookup; refine wpList_mapv_int_ok rfl (.tmp 42) (.tmp 43) 58 rfl lawI Tryd.underlying58 Tryd.underlying3 (zeroI _) rfl HMR.out (K : Int) _ rfl (keyOf_int_mk Tryd.underlying3 (WalkArith.wf_i64 (by omega))) ?_; rw [HGK.out, HSK.out, hN1])
              go_roundw
              case rel => exact InnR.mk (r + 1) m' a (by omega) (by go_num) (by omega) HMR h4 hg
              case measure => simp [intOf]; omega
            · have hN1 : decide (0 < N) = true := decide_eq_true (by omega)
              by_cases had : XK - X ≤ c.ga
              · rcases Nat.eq_zero_or_pos a with rfl | ha0
                · rw [decide_eq_true had] at C5
                  go_wp2_with (at_lookup; refine wpList_mapv_int_ok rfl (.tmp 42) (.tmp 43) 58 rfl lawI Tryd.underlying58 Tryd.underlying3 (zeroI _) rfl HMR.out (K : Int) _ rfl (keyOf_int_mk Tryd.underlying3 (WalkArith.wf_i64 (by omega))) ?_; rw [HGK.out, HSK.out, hN1])
                  refine (C5.out _ (by repeat (first | exact Below.refl _ _ | assumption | refine Below.setCell ?_ (by first | (simp; done) | (simp; omega) | omega) _ | refine Below.drew ?_ | refine below_drewN ?_ _ | refine Below.alloc ?_ (by first | (simp; done) | (simp; omega) | omega) _ | refine below_alloc ?_ _ | refine below_step ?_ (by assumption)))).mono ?_
                  rintro e w5 ⟨rfl, hb⟩
                  have hM5 := Lib.hid (HMR.out.block (hb.block (w.heap.size + 1) (by omega)))
                  have hg6 : w2.grownBy w5 (some (w.heap.size + 1)) := hg.andThen (below_grown hb none) (fun j hj => by cases hj)
                  have h4 := Lib.hid (HS2.out (by first | omega | simp) (by first | omega | simp) (by first | omega | simp))
                  have hgd0 : Hid (((accM (mapP c l p) (D : Int) 0) (D : Int)).getD 0 = 0) := HGD
                  have HU6 : Hid (upd (accM (mapP c l p) (D : Int) 0) (D : Int) ((N : Int) + 1) = accM (mapP c l p) (D : Int) (N + 1)) := Lib.hid (by have := HUP.out (N + 1) (by omega); simpa using this)
                  have hrun : (Instr.lookup 58 (.map (some (w.heap.size + 1))) (.int .i64 (D : Int)) false).run Tryd.prog w5 = .ok (.int .i64 0) w5 := by have h := hM5.out.run_int lawI Tryd.underlying58 Tryd.underlying3 (zeroI _) (D : Int) (keyOf_int_mk Tryd.underlying3 (WalkArith.wf_i64 (by omega))); rw [hgd0.out] at h; exact h
                  go_wp2_with ((at_mapUpdate; refine wpList_mapv_put (κ := Int) rfl (.tmp 69) (.tmp 70) (.tmp 72) 58 rfl lawI Tryd.underlying58 (fun _ _ => ilit_inj) (fun _ => trivial) rfl hM5.out (by unfold maxLen; omega) (D : Int) ((N : Int) + 1) _ _ rfl rfl (keyOf_int_mk Tryd.underlying3 (WalkArith.wf_i64 (by omega))) (plainElem_int Tryd.underlying3 (WalkArith.wf_i64 (by omega))) ?_; intro w6 hM6 hg7; go_frame))
                  have HM7 : Hid (MapI w6 (w.heap.size + 1) (m' + 1) (accM (mapP c l p) D (N + 1))) := Lib.hid (by rw [← HU6.out]; exact hM6)
                  have hg8 : w2.grownBy w6 (some (w.heap.size + 1)) := hg6.andThen hg7 (fun j hj => by injection hj with hj; right; rw [hj])
                  clear hM6 hg7
                  try go_wp2
                  go_roundw
                  case rel => exact InnR.mk (r + 1) (m' + 1) (N + 1) (by omega) (by go_num) (by omega) HM7 h4 hg8
                  case measure => simp [intOf]; omega
                · have haz : ((a : Int) == 0) = false := by simp; omega
                  by_cases hl2 : N + 1 < a
                  · rw [decide_eq_true had] at C5
                    go_wp2_with (at_lookup; refine wpList_mapv_int_ok rfl (.tmp 42) (.tmp 43) 58 rfl lawI Tryd.underlying58 Tryd.underlying3 (zeroI _) rfl HMR.out (K : Int) _ rfl (keyOf_int_mk Tryd.underlying3 (WalkArith.wf_i64 (by omega))) ?_; rw [HGK.out, HSK.out, hN1])
                    refine (C5.out _ (by repeat (first | exact Below.refl _ _ | assumption | refine Below.setCell ?_ (by first | (simp; done) | (simp; omega) | omega) _ | refine Below.drew ?_ | refine below_drewN ?_ _ | refine Below.alloc ?_ (by first | (simp; done) | (simp; omega) | omega) _ | refine below_alloc ?_ _ | refine below_step ?_ (by assumption)))).mono ?_
                    rintro e w5 ⟨rfl, hb⟩
                    have hM5 := Lib.hid (HMR.out.block (hb.block (w.heap.size + 1) (by omega)))
                    have hg6 : w2.grownBy w5 (some (w.heap.size + 1)) := hg.andThen (below_grown hb none) (fun j hj => by cases hj)
                    have h4 := Lib.hid (HS2.out (by first | omega | simp) (by first | omega | simp) (by first | omega | simp))
                    have HU6 : Hid (upd (accM (mapP c l p) (D : Int) a) (D : Int) ((N : Int) + 1) = accM (mapP c l p) (D : Int) (N + 1)) := Lib.hid (by have := HUP.out (N + 1) (by omega); simpa using this)
                    have hrun : (Instr.lookup 58 (.map (some (w.heap.size + 1))) (.int .i64 (D : Int)) false).run Tryd.prog w5 = .ok (.int .i64 (a : Int)) w5 := by have h := hM5.out.run_int lawI Tryd.underlying58 Tryd.underlying3 (zeroI _) (D : Int) (keyOf_int_mk Tryd.underlying3 (WalkArith.wf_i64 (by omega))); rw [HGD.out] at h; exact h
                    go_wp2_with ((at_mapUpdate; refine wpList_mapv_put (κ := Int) rfl (.tmp 69) (.tmp 70) (.tmp 72) 58 rfl lawI Tryd.underlying58 (fun _ _ => ilit_inj) (fun _ => trivial) rfl hM5.out (by unfold maxLen; omega) (D : Int) ((N : Int) + 1) _ _ rfl rfl (keyOf_int_mk Tryd.underlying3 (WalkArith.wf_i64 (by omega))) (plainElem_int Tryd.underlying3 (WalkArith.wf_i64 (by omega))) ?_; intro w6 hM6 hg7; go_frame))
                    have HM7 : Hid (MapI w6 (w.heap.size + 1) (m' + 1) (accM (mapP c l p) D (N + 1))) := Lib.hid (by rw [← HU6.out]; exact hM6)
                    have hg8 : w2.grownBy w6 (some (w.heap.size + 1)) := hg6.andThen hg7 (fun j hj => by injection hj with hj; right; rw [hj])
                    clear hM6 hg7
                    try go_wp2
                    go_roundw
                    case rel => exact InnR.mk (r + 1) (m' + 1) (N + 1) (by omega) (by go_num) (by omega) HM7 h4 hg8
                    case measure => simp [intOf]; omega
                  · rw [decide_eq_true had] at C5
                    go_wp2_with (at_lookup; refine wpList_mapv_int_ok rfl (.tmp 42) (.tmp 43) 58 rfl lawI Tryd.underlying58 Tryd.underlying3 (zeroI _) rfl HMR.out (K : Int) _ rfl (keyOf_int_mk Tryd.underlying3 (WalkArith.wf_i64 (by omega))) ?_; rw [HGK.out, HSK.out, hN1])
                    refine (C5.out _ (by repeat (first | exact Below.refl _ _ | assumption | refine Below.setCell ?_ (by first | (simp; done) | (simp; omega) | omega) _ | refine Below.drew ?_ | refine below_drewN ?_ _ | refine Below.alloc ?_ (by first | (simp; done) | (simp; omega) | omega) _ | refine below_alloc ?_ _ | refine below_step ?_ (by assumption)))).mono ?_
                    rintro e w5 ⟨rfl, hb⟩
                    have hM5 := Lib.hid (HMR.out.block (hb.block (w.heap.size + 1) (by omega)))
                    have hg6 : w2.grownBy w5 (some (w.heap.size + 1)) := hg.andThen (below_grown hb none) (fun j hj => by cases hj)
                    have h4 := Lib.hid (HS3.out (by omega) (by omega))
                    have hrun : (Instr.lookup 58 (.map (some (w.heap.size + 1))) (.int .i64 (D : Int)) false).run Tryd.prog w5 = .ok (.int .i64 (a : Int)) w5 := by have h := hM5.out.run_int lawI Tryd.underlying58 Tryd.underlying3 (zeroI _) (D : Int) (keyOf_int_mk Tryd.underlying3 (WalkArith.wf_i64 (by omega))); rw [HGD.out] at h; exact h
                    go_wp2_with (fail)
                    go_roundw
                    case rel => exact InnR.mk (r + 1) m' a (by omega) (by go_num) (by omega) hM5 h4 hg6
                    case measure => simp [intOf]; omega
              · rw [decide_eq_false had] at C5
                have h4 := Lib.hid (HS1.out (.inr had))
                go_wp2_with (at_lookup; refine wpList_mapv_int_ok rfl (.tmp 42) (.tmp 43) 58 rfl lawI Tryd.underlying58 Tryd.underlying3 (zeroI _) rfl HMR.out (K : Int) _ rfl (keyOf_int_mk Tryd.underlying3 (WalkArith.wf_i64 (by omega))) ?_; rw [HGK.out, HSK.out, hN1])
                refine (C5.out _ (by repeat (first | exact Below.refl _ _ | assumption | refine Below.setCell ?_ (by first | (simp; done) | (simp; omega) | omega) _ | refine Below.drew ?_ | refine below_drewN ?_ _ | refine Below.alloc ?_ (by first | (simp; done) | (simp; omega) | omega) _ | refine below_alloc ?_ _ | refine below_step ?_ (by assumption)))).mono ?_
                rintro e w5 ⟨rfl, hb⟩
                have hM5 := Lib.hid (HMR.out.block (hb.block (w.heap.size + 1) (by omega)))
                have hg6 : w2.grownBy w5 (some (w.heap.size + 1)) := hg.andThen (below_grown hb none) (fun j hj => by cases hj)
                go_wp2
                go_roundw
                case rel => exact InnR.mk (r + 1) m' a (by omega) (by go_num) (by omega) hM5 h4 hg6
                case measure => simp [intOf]; omega
          · have hrp : r = p := by omega
            have hdn := HCR.out
            rw [hrp] at hdn
            have hda := hdn.done hD
            have HMN : Hid (MapI wr (w.heap.size + 1) m' (mapP c l (p + 1))) := Lib.hid (by
              have h5 := HMR.out
              rw [hda, mapP_next hD] at h5
              exact h5)
            clear hdn hda hrp
            go_wp2
            go_roundw
            case rel => exact OutR.mk (p + 1) m' (by omega) (by go_num) (by omega) HMN hg
            case measure => simp [intOf]; omega
      · rw [decide_eq_false hla] at c4
        have C4 := Lib.hid c4
        clear c4
        go_wp2
        (refine wp_region_later (by kernel_rfl) (by kernel_rfl) ?_; (repeat (go_big_quiet_step ((go_at_call 34; exact later_call (C4.out _))))); refine wpQuiet_nil ?_)
        intro w3 hb
        have hB3 : Below w.heap.size w w3 := hBr.trans (hb.mono (by omega))
        have hg3 : w2.grownBy w3 (some (w.heap.size + 1)) := hg.andThen (below_grown hb none) (fun j hj => by cases hj)
        have HM3 := Lib.hid (HM.out.block (hb.block (w.heap.size + 1) (by omega)))
        have hs3 := hb.size
        clear hg hj1 hj2 hc0 q0 q1 q2 q3 q4 q5
        have HM4 : Hid (MapI w3 (w.heap.size + 1) (m + 1) (accM (mapP c l p) D 0)) := Lib.hid (by rw [HAC.out]; exact HM3.out.mono (by omega))
        have hg5 := hg3
        have HCA : Hid (CntAt c l D 0 0) := Lib.hid (HCZ.out (by omega))
        clear HM3 hg3
        go_wp2
        go_loopw [37] (fun i wr => InnR c l w w2 p D i wr) (fun i _ => p - (intOf i).toNat)
        case atStart => exact InnR.mk 0 (m + 1) 0 (Nat.zero_le _) rfl (by omega) HM4 HCA hg5
        case round =>
          obtain ⟨r, m', a, hr, rfl, hm', HMR, HCR, hg⟩ := hrel
          have hBr : Below w.heap.size w wr := hB2.trans (grown_below hg (by omega) (fun k hk => by injection hk; omega))
          have hsr := hg.size
          by_cases hrt : r < p
          · obtain ⟨K, hK⟩ : ∃ K, (sndRv l)[r]? = some K := ⟨_, List.getElem?_eq_getElem (by rw [HNN.out]; omega)⟩
            obtain ⟨hmk, hDK, hKl⟩ := acc_other (c := c) (a := a) hD hK hrt
            rw [HX.out.1] at hKl
            obtain ⟨b', off', he, _, hc0⟩ := (HI.out.grown hg (Nat.le_refl _) (fun b off h0 h1 => HNE.out b off h0 h1)).at_ r (by omega)
            cases he
            rw [cast_at hK] at hc0
            obtain ⟨q0, q1, q2, q3, q4, q5⟩ := HC.out.block (hg.block w.heap.size (by omega) (by simp))
            have c5 := fun W (h : Below w.heap.size w W) => C3.out D K W h (by omega) hKl
            have hfd : folB c l D K = decide (hgt l K - X ≤ c.ga) := by rw [folB_nat, decide_eq_true hDK, hX]; rfl
            rw [hfd] at c5
            have hsk := fun h => HCR.out.skip hK h
            have hlw := fun h1 h2 h3 => HCR.out.low hK h1 h2 h3
            have hst := fun h1 h2 => HCR.out.stay hK h1 h2
            rw [hX] at hsk hlw hst
            have hNb := need_bd c l K
            rw [HX.out.1] at hNb
            have hab := HCR.out.le
            rw [HX.out.1] at hab
            have hgetK : ((accM (mapP c l p) (D : Int) a) (K : Int)).getD 0 = need c l K := by rw [hmk, needM_get]
            have hsomK : ((accM (mapP c l p) (D : Int) a) (K : Int)).isSome = decide (0 < need c l K) := by rw [hmk, needM_some]
            have hgetD := acc_same (mapP c l p) (D : Int) a
            have hup := fun v hv => acc_upd (mapP c l p) (D : Int) a v hv
            have HGK := Lib.hid hgetK
            have HSK := Lib.hid hsomK
            have HGD := Lib.hid hgetD
            have HUP := Lib.hid hup
            have HS1 := Lib.hid hsk
            have HS2 := Lib.hid hlw
            have HS3 := Lib.hid hst
            have C5 := Lib.hid c5
            generalize need c l K = N at *
            generalize hgt l K = XK at *
            have hb1' : b < wr.heap.size := by omega
            have hwr1 : w.heap.size < wr.heap.size := by omega
            clear c5 hfd hsk hlw hst hgetK hsomK hgetD hup hmk
            have hr1 : (r : Int) < p := by omega
            have hr2 : ¬ p ≤ r := by omega
            by_cases hN0 : N = 0
            · have hN1 : decide (0 < N) = false := decide_eq_false (by omega)
              have h4 := Lib.hid (HS1.out (.inl hN0))
              go_wp2_with (at_lookup; refine wpList_mapv_int_ok rfl (.tmp 42) (.tmp 43) 58 rfl lawI Tryd.underlying58 Tryd.underlying3 (zeroI _) rfl HMR.out (K : Int) _ rfl (keyOf_int_mk Tryd.underlying3 (WalkArith.wf_i64 (by omega))) ?_; rw [HGK.out, HSK.out, hN1])
              go_roundw
              case rel => exact InnR.mk (r + 1) m' a (by omega) (by go_num) (by omega) HMR h4 hg
              case measure => simp [intOf]; omega
            · have hN1 : decide (0 < N) = true := decide_eq_true (by omega)
              by_cases had : XK - X ≤ c.ga
              · rcases Nat.eq_zero_or_pos a with rfl | ha0
                · rw [decide_eq_true had] at C5
                  go_wp2_with (at_lookup; refine wpList_mapv_int_ok rfl (.tmp 42) (.tmp 43) 58 rfl lawI Tryd.underlying58 Tryd.underlying3 (zeroI _) rfl HMR.out (K : Int) _ rfl (keyOf_int_mk Tryd.underlying3 (WalkArith.wf_i64 (by omega))) ?_; rw [HGK.out, HSK.out, hN1])
                  refine (C5.out _ (by repeat (first | exact Below.refl _ _ | assumption | refine Below.setCell ?_ (by first | (simp; done) | (simp; omega) | omega) _ | refine Below.drew ?_ | refine below_drewN ?_ _ | refine Below.alloc ?_ (by first | (simp; done) | (simp; omega) | omega) _ | refine below_alloc ?_ _ | refine below_step ?_ (by assumption)))).mono ?_
                  rintro e w5 ⟨rfl, hb⟩
                  have hM5 := Lib.hid (HMR.out.block (hb.block (w.heap.size + 1) (by omega)))
                  have hg6 : w2.grownBy w5 (some (w.heap.size + 1)) := hg.andThen (below_grown hb none) (fun j hj => by cases hj)
                  have h4 := Lib.hid (HS2.out (by first | omega | simp) (by first | omega | simp) (by first | omega | simp))
                  have hgd0 : Hid (((accM (mapP c l p) (D : Int) 0) (D : Int)).getD 0 = 0) := HGD
                  have HU6 : Hid (upd (accM (mapP c l p) (D : Int) 0) (D : Int) ((N : Int) + 1) = accM (mapP c l p) (D : Int) (N + 1)) := Lib.hid (by have := HUP.out (N + 1) (by omega); simpa using this)
                  have hrun : (Instr.lookup 58 (.map (some (w.heap.size + 1))) (.int .i64 (D : Int)) false).run Tryd.prog w5 = .ok (.int .i64 0) w5 := by have h := hM5.out.run_int lawI Tryd.underlying58 Tryd.underlying3 (zeroI _) (D : Int) (keyOf_int_mk Tryd.underlying3 (WalkArith.wf_i64 (by omega))); rw [hgd0.out] at h; exact h
                  go_wp2_with ((at_mapUpdate; refine wpList_mapv_put (κ := Int) rfl (.tmp 69) (.tmp 70) (.tmp 72) 58 rfl lawI Tryd.underlying58 (fun _ _ => ilit_inj) (fun _ => trivial) rfl hM5.out (by unfold maxLen; omega) (D : Int) ((N : Int) + 1) _ _ rfl rfl (keyOf_int_mk Tryd.underlying3 (WalkArith.wf_i64 (by omega))) (plainElem_int Tryd.underlying3 (WalkArith.wf_i64 (by omega))) ?_; intro w6 hM6 hg7; go_frame))
                  have HM7 : Hid (MapI w6 (w.heap.size + 1) (m' + 1) (accM (mapP c l p) D (N + 1))) := Lib.hid (by rw [← HU6.out]; exact hM6)
                  have hg8 : w2.grownBy w6 (some (w.heap.size + 1)) := hg6.andThen hg7 (fun j hj => by injection hj with hj; right; rw [hj])
                  clear hM6 hg7
                  try go_wp2
                  go_roundw
                  case rel => exact InnR.mk (r + 1) (m' + 1) (N + 1) (by omega) (by go_num) (by omega) HM7 h4 hg8
                  case measure => simp [intOf]; omega
                · have haz : ((a : Int) == 0) = false := by simp; omega
                  by_cases hl2 : N + 1 < a
                  · rw [decide_eq_true had] at C5
                    go_wp2_with (at_lookup; refine wpList_mapv_int_ok rfl (.tmp 42) (.tmp 43) 58 rfl lawI Tryd.underlying58 Tryd.underlying3 (zeroI _) rfl HMR.out (K : Int) _ rfl (keyOf_int_mk Tryd.underlying3 (WalkArith.wf_i64 (by omega))) ?_; rw [HGK.out, HSK.out, hN1])
                    refine (C5.out _ (by repeat (first | exact Below.refl _ _ | assumption | refine Below.setCell ?_ (by first | (simp; done) | (simp; omega) | omega) _ | refine Below.drew ?_ | refine below_drewN ?_ _ | refine Below.alloc ?_ (by first | (simp; done) | (simp; omega) | omega) _ | refine below_alloc ?_ _ | refine below_step ?_ (by assumption)))).mono ?_
                    rintro e w5 ⟨rfl, hb⟩
                    have hM5 := Lib.hid (HMR.out.block (hb.block (w.heap.size + 1) (by omega)))
                    have hg6 : w2.grownBy w5 (some (w.heap.size + 1)) := hg.andThen (below_grown hb none) (fun j hj => by cases hj)
                    have h4 := Lib.hid (HS2.out (by first | omega | simp) (by first | omega | simp) (by first | omega | simp))
                    have HU6 : Hid (upd (accM (mapP c l p) (D : Int) a) (D : Int) ((N : Int) + 1) = accM (mapP c l p) (D : Int) (N + 1)) := Lib.hid (by have := HUP.out (N + 1) (by omega); simpa using this)
                    have hrun : (Instr.lookup 58 (.map (some (w.heap.size + 1))) (.int .i64 (D : Int)) false).run Tryd.prog w5 = .ok (.int .i64 (a : Int)) w5 := by have h := hM5.out.run_int lawI Tryd.underlying58 Tryd.underlying3 (zeroI _) (D : Int) (keyOf_int_mk Tryd.underlying3 (WalkArith.wf_i64 (by omega))); rw [HGD.out] at h; exact h
                    go_wp2_with ((at_mapUpdate; refine wpList_mapv_put (κ := Int) rfl (.tmp 69) (.tmp 70) (.tmp 72) 58 rfl lawI Tryd.underlying58 (fun _ _ => ilit_inj) (fun _ => trivial) rfl hM5.out (by unfold maxLen; omega) (D : Int) ((N : Int) + 1) _ _ rfl rfl (keyOf_int_mk Tryd.underlying3 (WalkArith.wf_i64 (by omega))) (plainElem_int Tryd.underlying3 (WalkArith.wf_i64 (by omega))) ?_; intro w6 hM6 hg7; go_frame))
                    have HM7 : Hid (MapI w6 (w.heap.size + 1) (m' + 1) (accM (mapP c l p) D (N + 1))) := Lib.hid (by rw [← HU6.out]; exact hM6)
                    have hg8 : w2.grownBy w6 (some (w.heap.size + 1)) := hg6.andThen hg7 (fun j hj => by injection hj with hj; right; rw [hj])
                    clear hM6 hg7
                    try go_wp2
                    go_roundw
                    case rel => exact InnR.mk (r + 1) (m' + 1) (N + 1) (by omega) (by go_num) (by omega) HM7 h4 hg8
                    case measure => simp [intOf]; omega
                  · rw [decide_eq_true had] at C5
                    go_wp2_with (at_lookup; refine wpList_mapv_int_ok rfl (.tmp 42) (.tmp 43) 58 rfl lawI Tryd.underlying58 Tryd.underlying3 (zeroI _) rfl HMR.out (K : Int) _ rfl (keyOf_int_mk Tryd.underlying3 (WalkArith.wf_i64 (by omega))) ?_; rw [HGK.out, HSK.out, hN1])
                    refine (C5.out _ (by repeat (first | exact Below.refl _ _ | assumption | refine Below.setCell ?_ (by first | (simp; done) | (simp; omega) | omega) _ | refine Below.drew ?_ | refine below_drewN ?_ _ | refine Below.alloc ?_ (by first | (simp; done) | (simp; omega) | omega) _ | refine below_alloc ?_ _ | refine below_step ?_ (by assumption)))).mono ?_
                    rintro e w5 ⟨rfl, hb⟩
                    have hM5 := Lib.hid (HMR.out.block (hb.block (w.heap.size + 1) (by omega)))
                    have hg6 : w2.grownBy w5 (some (w.heap.size + 1)) := hg.andThen (below_grown hb none) (fun j hj => by cases hj)
                    have h4 := Lib.hid (HS3.out (by omega) (by omega))
                    have hrun : (Instr.lookup 58 (.map (some (w.heap.size + 1))) (.int .i64 (D : Int)) false).run Tryd.prog w5 = .ok (.int .i64 (a : Int)) w5 := by have h := hM5.out.run_int lawI Tryd.underlying58 Tryd.underlying3 (zeroI _) (D : Int) (keyOf_int_mk Tryd.underlying3 (WalkArith.wf_i64 (by omega))); rw [HGD.out] at h; exact h
                    go_wp2_with (fail)
                    go_roundw
                    case rel => exact InnR.mk (r + 1) m' a (by omega) (by go_num) (by omega) hM5 h4 hg6
                    case measure => simp [intOf]; omega
              · rw [decide_eq_false had] at C5
                have h4 := Lib.hid (HS1.out (.inr had))
                go_wp2_with (at_lookup; refine wpList_mapv_int_ok rfl (.tmp 42) (.tmp 43) 58 rfl lawI Tryd.underlying58 Tryd.underlying3 (zeroI _) rfl HMR.out (K : Int) _ rfl (keyOf_int_mk Tryd.underlying3 (WalkArith.wf_i64 (by omega))) ?_; rw [HGK.out, HSK.out, hN1])
                refine (C5.out _ (by repeat (first | exact Below.refl _ _ | assumption | refine Below.setCell ?_ (by first | (simp; done) | (simp; omega) | omega) _ | refine Below.drew ?_ | refine below_drewN ?_ _ | refine Below.alloc ?_ (by first | (simp; done) | (simp; omega) | omega) _ | refine below_alloc ?_ _ | refine below_step ?_ (by assumption)))).mono ?_
                rintro e w5 ⟨rfl, hb⟩
                have hM5 := Lib.hid (HMR.out.block (hb.block (w.heap.size + 1) (by omega)))
                have hg6 : w2.grownBy w5 (some (w.heap.size + 1)) := hg.andThen (below_grown hb none) (fun j hj => by cases hj)
                go_wp2
                go_roundw
                case rel => exact InnR.mk (r + 1) m' a (by omega) (by go_num) (by omega) hM5 h4 hg6
                case measure => simp [intOf]; omega
          · have hrp : r = p := by omega
            have hdn := HCR.out
            rw [hrp] at hdn
            have hda := hdn.done hD
            have HMN : Hid (MapI wr (w.heap.size + 1) m' (mapP c l (p + 1))) := Lib.hid (by
              have h5 := HMR.out
              rw [hda, mapP_next hD] at h5
              exact h5)
            clear hdn hda hrp
            go_wp2
            go_roundw
            case rel => exact OutR.mk (p + 1) m' (by omega) (by go_num) (by omega) HMN hg
            case measure => simp [intOf]; omega
    · have hpn : p = n := by omega
      have HFN : Hid (MapI wr (w.heap.size + 1) m (needM c l)) := Lib.hid (by
        have h5 := HM.out
        rw [hpn, ← HNN.out, mapP_done] at h5
        exact h5)
      clear hpn
      go_wp2
      go_ret
      exact ⟨⟨_, m, rfl, HFN.out, by omega⟩, hBr⟩
end Go.Proofs.YtjgibipficojaaaDoor
