/- Dogs: the reference's fewest. -/
import Derived.Test.YtecocbohaggokaaNeedR
import Derived.Test.YtecocbohaggokaaFew
set_option linter.unusedSimpArgs false
set_option linter.unusedVariables false
namespace Go.Proofs.Ytecocbohaggokaa
open Go.RowKit
attribute [local go_sem] Later.cell

def RFOut (c : Clb) (l : List J) (w1 : World) (v bf : Value) (wr : World) : Prop :=
  ∃ (out : List Int) (a : Int), bf = .int .i64 a ∧ (out.length : Int) ≤ a + 1 ∧ -1 ≤ a ∧ a < l.length ∧ Hid (∃ f, FewAt c l out f a) ∧ wr.ownsRow w1.heap.size 3 1 v out.length (icells out) ∧ Below w1.heap.size w1 wr
theorem RFOut.mk {c : Clb} {l : List J} {w1 : World} {v bf : Value} {wr : World} (out : List Int) (a : Int) (h1 : bf = .int .i64 a) (h2 : (out.length : Int) ≤ a + 1) (h3 : -1 ≤ a) (h4 : a < l.length) (h5 : Hid (∃ f, FewAt c l out f a)) (h6 : wr.ownsRow w1.heap.size 3 1 v out.length (icells out)) (h7 : Below w1.heap.size w1 wr) : RFOut c l w1 v bf wr := ⟨out, a, h1, h2, h3, h4, h5, h6, h7⟩
/-- How the search stands when the joints below k were looked at. -/
def PkAt (c : Clb) (l : List J) (a : Int) (k : Nat) (b : Int) : Prop := Pick (fun q => q < k ∧ folB c l a q = true) (need c l) b
theorem PkAt.start (c : Clb) (l : List J) {a : Int} (ha : -1 ≤ a) : PkAt c l a (a + 1).toNat (-1) := Pick.none fun q hq => by
  obtain ⟨h1, h2⟩ := hq
  unfold folB at h2
  split at h2
  · omega
  · rw [Bool.and_eq_true, decide_eq_true_eq] at h2
    have := h2.1; omega
theorem PkAt.iff {c : Clb} {l : List J} {a : Int} {k : Nat} (ha : folB c l a k = true) (q : Nat) : (q < k + 1 ∧ folB c l a q = true) ↔ (q < k ∧ folB c l a q = true) ∨ q = k := by
  constructor
  · rintro ⟨h1, h2⟩
    by_cases e : q = k
    · exact .inr e
    · exact .inl ⟨by omega, h2⟩
  · rintro (⟨h1, h2⟩ | rfl)
    · exact ⟨by omega, h2⟩
    · exact ⟨by omega, ha⟩
theorem PkAt.skip {c : Clb} {l : List J} {a : Int} {k : Nat} {b : Int} (h : PkAt c l a k b) (hk : need c l k = 0 ∨ folB c l a k = false) : PkAt c l a (k + 1) b := by
  refine Pick.same h fun q hq => ?_
  constructor
  · rintro ⟨h1, h2⟩
    refine ⟨?_, h2⟩
    by_cases e : q = k
    · subst e
      rcases hk with hk | hk
      · omega
      · rw [hk] at h2; cases h2
    · omega
  · rintro ⟨h1, h2⟩; exact ⟨by omega, h2⟩
theorem PkAt.low {c : Clb} {l : List J} {a : Int} {k : Nat} {b : Int} (h : PkAt c l a k b) (hn : 0 < need c l k) (ha : folB c l a k = true) (hl : b < 0 ∨ need c l k < need c l b.toNat) : PkAt c l a (k + 1) k := Pick.low h (PkAt.iff ha) hn hl
theorem PkAt.stay {c : Clb} {l : List J} {a : Int} {k : Nat} {b : Int} (h : PkAt c l a k b) (ha : folB c l a k = true) (hl : 0 ≤ b ∧ ¬ need c l k < need c l b.toNat) : PkAt c l a (k + 1) b := Pick.stay h (PkAt.iff ha) (fun q hq => hq.1) (.inr hl)
theorem PkAt.done {c : Clb} {l : List J} {a b : Int} (h : PkAt c l a l.length b) : b = nxt c l a := Pick.unique h (nxt_spec c l a)
theorem PkAt.bd {c : Clb} {l : List J} {a : Int} {k : Nat} {b : Int} (h : PkAt c l a k b) : b = -1 ∨ (0 ≤ b ∧ b < l.length) := by
  rcases h with ⟨h1, _⟩ | ⟨i, rfl, h2, h3, _⟩
  · exact .inl h1
  · have := need_snd h3; exact .inr ⟨by omega, by omega⟩
def RFInn (c : Clb) (l : List J) (w2 : World) (a : Int) (b i : Value) (wr : World) : Prop :=
  ∃ (k : Nat) (B : Int), a < k ∧ k ≤ l.length ∧ i = .int .i64 k ∧ b = .int .i64 B ∧ Hid (PkAt c l a k B) ∧ Below w2.heap.size w2 wr
theorem RFInn.mk {c : Clb} {l : List J} {w2 : World} {a : Int} {b i : Value} {wr : World} (k : Nat) (B : Int) (h0 : a < k) (h1 : k ≤ l.length) (h2 : i = .int .i64 k) (h3 : b = .int .i64 B) (h4 : Hid (PkAt c l a k B)) (h5 : Below w2.heap.size w2 wr) : RFInn c l w2 a b i wr := ⟨k, B, h0, h1, h2, h3, h4, h5⟩

set_option maxRecDepth 20000 in
set_option maxHeartbeats 16000000 in
theorem rfewest_any (c : Clb) (A : Option Addr) (len cap : Nat) (l : List J) (w : World) (hv1 : vC c = true) (hv2 : vJ l = true) (hx : Rows 2 jointV dJ w w.heap.size A len l) :
    Calls Try.prog 56 #[climbV c, .slice A len cap] w fun e w' => (∃ v, e = .returned v ∧ FewV w' w.heap.size v (few c l)) ∧ Below w.heap.size w w' := by
  have hvj := vJ_spec hv2
  obtain rfl : l.length = len := hx.1
  have hlen2 := hvj.1
  have c1 := fun W (h : Below w.heap.size w W) => rneed_any c A l.length cap l W hv1 hv2 ((hx.below h).more h.size)
  have C1 := Lib.hid c1
  have HX := Lib.hid hx
  have HVJ := Lib.hid hvj
  obtain ⟨i0, hi, hz0, hz1, hz2⟩ := info_parts info_int
  have hI0 := Lib.hid hi
  have hI1 := Lib.hid hz0
  have hI2 := Lib.hid hz1
  have hI3 := Lib.hid hz2
  clear hi hz0 hz1 hz2 c1 hx hvj hv1 hv2
  go_enter Try.func56, Try.ntmps56
  go_wp2_with fail
  refine (C1.out _ (by repeat (first | exact Below.refl _ _ | assumption | refine Below.setCell ?_ (by first | (simp; done) | (simp; omega) | omega) _ | refine Below.drew ?_ | refine below_drewN ?_ _ | refine Below.alloc ?_ (by first | (simp; done) | (simp; omega) | omega) _ | refine below_alloc ?_ _ | refine below_step ?_ (by assumption)))).mono ?_
  rintro e w1 ⟨⟨g, rfl, hN⟩, hb⟩
  have hB_w1 : Below w.heap.size w w1 := (by repeat (first | exact Below.refl _ _ | assumption | refine Below.setCell ?_ (by first | (simp; done) | (simp; omega) | omega) _ | refine Below.drew ?_ | refine below_drewN ?_ _ | refine Below.alloc ?_ (by first | (simp; done) | (simp; omega) | omega) _ | refine below_alloc ?_ _ | refine below_step ?_ (by assumption))); have hz_w1 := hB_w1.size; have hsw10 : w.heap.size < w1.heap.size := Nat.lt_of_lt_of_le (by first | (simp; done) | (simp; omega) | omega) hb.size; have hnw10 : ¬ w.heap.size = w1.heap.size := (by omega); have hmw10 : ¬ w1.heap.size = w.heap.size := (by omega); have hlw10_0 : w.heap.size ≤ w1.heap.size := (by omega); have hlw10_1 : w.heap.size ≤ w1.heap.size + 1 := (by omega); have hlw10_2 : w.heap.size ≤ w1.heap.size + 1 + 1 := (by omega); have hkw10 : w1.cell? ⟨w.heap.size, 0, none⟩ = some (.int .i64 c.fi) := (by rw [hb.cell (p := ⟨w.heap.size, 0, none⟩) (by first | (simp; done) | (simp; omega) | omega)]; first | (go_simp; done) | assumption); have hkw11 : w1.cell? ⟨w.heap.size, 1, none⟩ = some (.int .i64 c.ga) := (by rw [hb.cell (p := ⟨w.heap.size, 1, none⟩) (by first | (simp; done) | (simp; omega) | omega)]; first | (go_simp; done) | assumption); have hkw12 : w1.cell? ⟨w.heap.size, 2, none⟩ = some (.int .i64 c.to) := (by rw [hb.cell (p := ⟨w.heap.size, 2, none⟩) (by first | (simp; done) | (simp; omega) | omega)]; first | (go_simp; done) | assumption); have hkw13 : w1.cell? ⟨w.heap.size, 3, none⟩ = some (.int .i64 c.le) := (by rw [hb.cell (p := ⟨w.heap.size, 3, none⟩) (by first | (simp; done) | (simp; omega) | omega)]; first | (go_simp; done) | assumption); have hkw14 : w1.cell? ⟨w.heap.size, 4, none⟩ = some (.int .i64 c.la) := (by rw [hb.cell (p := ⟨w.heap.size, 4, none⟩) (by first | (simp; done) | (simp; omega) | omega)]; first | (go_simp; done) | assumption); have hkw15 : w1.cell? ⟨w.heap.size, 5, none⟩ = some (.int .i64 c.st) := (by rw [hb.cell (p := ⟨w.heap.size, 5, none⟩) (by first | (simp; done) | (simp; omega) | omega)]; first | (go_simp; done) | assumption); clear hb
  have HN := Lib.hid hN
  clear hN
  go_wp2
  go_loopw [6, 7] (fun v bf wr => RFOut c l w1 v bf wr) (fun _ bf _ => (l.length - intOf bf).toNat)
  case atStart => exact RFOut.mk [] (-1) rfl (by simp) (by omega) (by omega) (Lib.hid ⟨_, FewAt.start c l⟩) (by exact World.ownsRow_nil w1 _ _ _) (Below.refl _ _)
  case round =>
    obtain ⟨out, a, rfl, f1, f2, f3, hf, hown, hb⟩ := hrel
    have hb' := hb
    have hs' := hb.size
    have HNr := Lib.hid ((HN.out.below hb).more hs')
    obtain ⟨A1, cap1, rfl, hn1, hn2, -, -⟩ := own_ints hown
    have HO := Lib.hid hown
    clear hown
    obtain ⟨wo, hwo⟩ : ∃ wo : World, wo = wr := ⟨_, rfl⟩
    have HBo : Hid (Below w.heap.size w wo) := Lib.hid (by rw [hwo]; exact hB_w1.trans (hb.mono hz_w1))
    have HBo1 : Hid (Below w1.heap.size w1 wo) := Lib.hid (by rw [hwo]; exact hb)
    have HCo : Hid (ClimbAt wo w.heap.size c) := Lib.hid (by
      rw [hwo]
      exact (show ClimbAt w1 w.heap.size c from ⟨by assumption, by assumption, by assumption, by assumption, by assumption, by assumption⟩).block (hb.block w.heap.size (by omega)))
    have hswo : w.heap.size < wo.heap.size := by rw [hwo]; omega
    have hs1o : w1.heap.size ≤ wo.heap.size := by rw [hwo]; exact hs'
    subst hwo
    clear hb hb'
    by_cases hneg : a < 0
    · have hd1 : decide (a < 0) = true := decide_eq_true hneg
      have hd2 : decide (0 ≤ a) = false := decide_eq_false (by omega)
      go_wp2
      go_loopw [8, 9] (fun b i wr => RFInn c l wo a b i wr) (fun _ i _ => l.length - (intOf i).toNat)
      case atStart => exact RFInn.mk (a + 1).toNat (-1) (by omega) (by omega) (by first | (congr 1; done) | (congr 1; omega)) rfl (Lib.hid (PkAt.start c l f2)) (Below.refl _ _)
      case round =>
        obtain ⟨k, B, hak, hkl, rfl, rfl, hP, hb⟩ := hrel
        have hBr : Below w.heap.size w wr := HBo.out.trans (hb.mono (by omega))
        have hb2 := hb
        have hs2 := hb.size
        have hBd := hP.out.bd
        obtain ⟨q0, q1, q2, q3, q4, q5⟩ := HCo.out.block (hb.block w.heap.size hswo)
        have hwr1 : w.heap.size < wr.heap.size := by omega
        by_cases hkt : k < l.length
        · obtain ⟨bn, on, hbn, hbl, hcn⟩ := (HNr.out.below (B := wo.heap.size) hb2).at_ k hkt
          injection hbn with hbn
          injection hbn with hbn1 hbn2 hbn3
          subst hbn1 hbn2
          rw [arrQ_done c l hkt, Nat.zero_add] at hcn
          obtain ⟨b', off', rfl, hb1, hj1, hj2⟩ := (HX.out.below hBr).atJ k hkt
          have hbk := HVJ.out.2.1 k hkt
          have hb3 : b' < wr.heap.size := by omega
          have hgl : g < wr.heap.size := by omega
          have hk1 : (k : Int) < l.length := by omega
          have hk2 : ¬ l.length ≤ k := by omega
          have hNb := need_bd c l k
          have HS1 := Lib.hid (fun h => hP.out.skip (k := k) h)
          have HS2 := Lib.hid (fun h1 h2 h3 => hP.out.low (k := k) h1 h2 h3)
          have HS3 := Lib.hid (fun h1 h2 => hP.out.stay (k := k) h1 h2)
          have hfo : folB c l a k = decide (hgt l k ≤ c.fi) := folB_neg hneg
          by_cases had : hgt l k ≤ c.fi
          · have hfo2 : folB c l a k = true := hfo.trans (decide_eq_true had)
            have HT1 := Lib.hid (fun h => HS1.out (.inl h))
            have HT2 := Lib.hid (fun h1 h3 => HS2.out h1 hfo2 h3)
            have HT3 := Lib.hid (fun h2 => HS3.out hfo2 h2)
            generalize hgt l k = XK at *
            have hq1 : decide (c.fi < XK) = false := decide_eq_false (by omega)
            clear HS1 HS2 HS3 hfo hfo2 hP
            by_cases hN0 : need c l k = 0
            · have h4 := Lib.hid (HT1.out hN0)
              rw [hN0] at hcn
              go_wp2
              (refine wp_region_later (by kernel_rfl) (by kernel_rfl) ?_; (repeat (go_big_quiet_step ((fail)))); refine wpQuiet_nil ?_)
              intro w4 hb
              have hb5 := hb2.trans (hb.mono hs2)
              go_wp2
              go_roundw
              case rel => exact RFInn.mk (k + 1) B (by omega) (by omega) (by go_num) rfl h4 hb5
              case measure => first | (simp [intOf]; done) | (simp [intOf]; omega)
            · rcases hBd with rfl | ⟨hB0, hBl⟩
              · have h4 := Lib.hid (HT2.out (by omega) (.inl (by omega)))
                generalize need c l k = N at *
                have hN1 : ((N : Int) == 0) = false := beq_eq_false_iff_ne.2 (by omega)
                go_wp2
                (refine wp_region_later (by kernel_rfl) (by kernel_rfl) ?_; (repeat (go_big_quiet_step ((fail)))); refine wpQuiet_nil ?_)
                intro w4 hb
                have hb5 := hb2.trans (hb.mono hs2)
                have hs4 := hb.size
                clear hb
                go_wp2
                (refine wp_region_later (by kernel_rfl) (by kernel_rfl) ?_; (repeat (go_big_quiet_step ((fail)))); refine wpQuiet_nil ?_)
                intro w5 hb
                have hb6 := hb5.trans (hb.mono (by omega))
                go_wp2
                go_roundw
                case rel => exact RFInn.mk (k + 1) k (by omega) (by omega) (by go_num) rfl h4 hb6
                case measure => first | (simp [intOf]; done) | (simp [intOf]; omega)
              · obtain ⟨E, rfl⟩ : ∃ E : Nat, B = (E : Int) := ⟨B.toNat, by omega⟩
                have hEl : E < l.length := by omega
                obtain ⟨bn, on, hbn, hbl2, hcE⟩ := (HNr.out.below (B := wo.heap.size) hb2).at_ E hEl
                injection hbn with hbn
                injection hbn with hbn1 hbn2 hbn3
                subst hbn1 hbn2
                rw [arrQ_done c l hEl, Nat.zero_add] at hcE
                have hE1 : (E : Int) < l.length := by omega
                have hE2 : ¬ l.length ≤ E := by omega
                have hE3 : decide ((E : Int) < 0) = false := decide_eq_false (by omega)
                have HU2 := Lib.hid (fun h1 h3 => HT2.out h1 h3)
                have HU3 := Lib.hid (fun h2 => HT3.out h2)
                rw [show ((E : Int)).toNat = E by simp] at HU2 HU3
                clear HT2 HT3
                generalize need c l k = N at *
                generalize need c l E = NE at *
                have hN1 : ((N : Int) == 0) = false := beq_eq_false_iff_ne.2 (by omega)
                by_cases hlo : N < NE
                · have h4 := Lib.hid (HU2.out (by omega) (by first | omega | (right; exact hlo)))
                  have hlo2 : decide ((N : Int) < NE) = true := decide_eq_true (by omega)
                  go_wp2
                  (refine wp_region_later (by kernel_rfl) (by kernel_rfl) ?_; (repeat (go_big_quiet_step ((fail)))); refine wpQuiet_nil ?_)
                  intro w4 hb
                  have hb5 := hb2.trans (hb.mono hs2)
                  have hs4 := hb.size
                  have hcn4 : w4.cell? ⟨g, k, none⟩ = some (.int .i64 (N : Int)) := (hb.cell (p := ⟨g, k, none⟩) hgl).trans hcn
                  have hcE4 : w4.cell? ⟨g, E, none⟩ = some (.int .i64 (NE : Int)) := (hb.cell (p := ⟨g, E, none⟩) hgl).trans hcE
                  have hg4 : g < w4.heap.size := by omega
                  clear hb
                  go_wp2
                  (refine wp_region_later (by kernel_rfl) (by kernel_rfl) ?_; (repeat (go_big_quiet_step ((fail)))); refine wpQuiet_nil ?_)
                  intro w5 hb
                  have hb6 := hb5.trans (hb.mono (by omega))
                  go_wp2
                  go_roundw
                  case rel => exact RFInn.mk (k + 1) k (by omega) (by omega) (by go_num) rfl h4 hb6
                  case measure => first | (simp [intOf]; done) | (simp [intOf]; omega)
                · have h4 := Lib.hid (HU3.out (by first | omega | exact ⟨by omega, hlo⟩))
                  have hlo2 : decide ((N : Int) < NE) = false := decide_eq_false (by omega)
                  have hlo3 : decide (N < NE) = false := decide_eq_false (by omega)
                  go_wp2
                  (refine wp_region_later (by kernel_rfl) (by kernel_rfl) ?_; (repeat (go_big_quiet_step ((fail)))); refine wpQuiet_nil ?_)
                  intro w4 hb
                  have hb5 := hb2.trans (hb.mono hs2)
                  have hs4 := hb.size
                  have hcn4 : w4.cell? ⟨g, k, none⟩ = some (.int .i64 (N : Int)) := (hb.cell (p := ⟨g, k, none⟩) hgl).trans hcn
                  have hcE4 : w4.cell? ⟨g, E, none⟩ = some (.int .i64 (NE : Int)) := (hb.cell (p := ⟨g, E, none⟩) hgl).trans hcE
                  have hg4 : g < w4.heap.size := by omega
                  clear hb
                  go_wp2
                  (refine wp_region_later (by kernel_rfl) (by kernel_rfl) ?_; (repeat (go_big_quiet_step ((fail)))); refine wpQuiet_nil ?_)
                  intro w5 hb
                  have hb6 := hb5.trans (hb.mono (by omega))
                  go_wp2
                  go_roundw
                  case rel => exact RFInn.mk (k + 1) E (by omega) (by omega) (by go_num) rfl h4 hb6
                  case measure => first | (simp [intOf]; done) | (simp [intOf]; omega)
          · have hfo2 : folB c l a k = false := hfo.trans (decide_eq_false had)
            have h4 := Lib.hid (HS1.out (.inr hfo2))
            generalize hgt l k = XK at *
            have hq1 : decide (c.fi < XK) = true := decide_eq_true (by omega)
            clear HS1 HS2 HS3 hfo hfo2 hP
            by_cases hN0 : need c l k = 0
            · rw [hN0] at hcn
              go_wp2
              (refine wp_region_later (by kernel_rfl) (by kernel_rfl) ?_; (repeat (go_big_quiet_step ((fail)))); refine wpQuiet_nil ?_)
              intro w4 hb
              have hb5 := hb2.trans (hb.mono hs2)
              go_wp2
              go_roundw
              case rel => exact RFInn.mk (k + 1) B (by omega) (by omega) (by go_num) rfl h4 hb5
              case measure => first | (simp [intOf]; done) | (simp [intOf]; omega)
            · generalize need c l k = N at *
              have hN1 : ((N : Int) == 0) = false := beq_eq_false_iff_ne.2 (by omega)
              go_wp2
              (refine wp_region_later (by kernel_rfl) (by kernel_rfl) ?_; (repeat (go_big_quiet_step ((fail)))); refine wpQuiet_nil ?_)
              intro w4 hb
              have hb5 := hb2.trans (hb.mono hs2)
              go_wp2
              go_roundw
              case rel => exact RFInn.mk (k + 1) B (by omega) (by omega) (by go_num) rfl h4 hb5
              case measure => first | (simp [intOf]; done) | (simp [intOf]; omega)
        · have hkn : k = l.length := by omega
          have hdn := hP.out
          rw [hkn] at hdn
          have hBn : B = nxt c l a := hdn.done
          have HO3 := Lib.hid (own_later HO.out hb2)
          have hb6 : Below w1.heap.size w1 wr := HBo1.out.trans (hb2.mono hs1o)
          have hs6 := hb6.size
          have HN3 := Lib.hid (HNr.out.below (B := wo.heap.size) hb2)
          clear hdn hP hkn
          by_cases hneg2 : B < 0
          · have hfin : Hid (few c l = none) := Lib.hid (hf.out.elim fun f hf => hf.nil (by rw [← hBn]; exact hneg2))
            clear hBn HO3 HN3
            go_wp2
            go_ret
            exact ⟨⟨_, rfl, .inl ⟨hfin.out, rfl⟩⟩, hBr⟩
          · have hnb := nxt_bd (c := c) (l := l) (a := a) (by rw [← hBn]; exact hneg2) f2
            rw [← hBn] at hnb
            obtain ⟨E, rfl⟩ : ∃ E : Nat, B = (E : Int) := ⟨B.toNat, by omega⟩
            have hEl : E < l.length := by omega
            have hE1 : (E : Int) < l.length := by omega
            have hE2 : ¬ l.length ≤ E := by omega
            obtain ⟨bn, on, hbn, hgl, hcE⟩ := HN3.out.at_ E hEl
            injection hbn with hbn
            injection hbn with hbn1 hbn2 hbn3
            subst hbn1 hbn2
            rw [arrQ_done c l hEl, Nat.zero_add] at hcE
            have hla : need c l E = 1 → few c l = some (out ++ [(E : Int)]) := fun h => hf.out.elim fun f hf => by
              have := hf.last (by rw [← hBn]; exact hneg2) (by rw [← hBn]; simpa using h)
              rw [← hBn] at this; exact this
            have hne : need c l E ≠ 1 → ∃ f, FewAt c l (out ++ [(E : Int)]) f E := fun h => hf.out.elim fun f hf => by
              have := hf.next (by rw [← hBn]; exact hneg2) (by rw [← hBn]; simpa using h)
              rw [← hBn] at this; exact this
            have HLA := Lib.hid hla
            have HNE := Lib.hid hne
            generalize need c l E = NE at *
            clear hBn hla hne
            go_wp2_with (at_builtin; go_loud (refine wpList_append_own _ rfl (.tmp 76) (.tmp 78) 25 rfl w1.heap.size 3 i0 (.int .i64 0) 1 8 Try.underlying25 hI0.out hI1.out hI2.out hI3.out rfl (by decide) _ _ _ rfl (HO3.out.alloc _) ⟨wr.heap.size, 0, none⟩ 1 1 [.int .i64 (E : Int)] rfl rfl (news1 _ _ _) (one1 _) (by unfold maxLen; omega) (by omega) (by simp; omega) ?_))
            intro v' w7 hown' hgrow _
            have hb7 : Below w1.heap.size w1 w7 := (below_alloc hb6 _).trans (grown_below hgrow (by simp; omega) (fun q hq => (HO3.out.lt q hq).1))
            have HO7 : Hid (w7.ownsRow w1.heap.size 3 1 v' (out ++ [(E : Int)]).length (icells (out ++ [(E : Int)]))) := by
              rw [List.length_append, icells_app]; exact hown'
            have hcE7 : w7.cell? ⟨g, E, none⟩ = some (.int .i64 (NE : Int)) := by
              have h5 := (HN.out.below hb7).at_ E hEl
              obtain ⟨bn, on, hbn, _, hcc⟩ := h5
              injection hbn with hbn
              injection hbn with hbn1 hbn2 hbn3
              subst hbn1 hbn2
              have h6 := (HNr.out.below (B := wo.heap.size) hb2).at_ E hEl
              obtain ⟨bn, on, hbn, _, hcd⟩ := h6
              injection hbn with hbn
              injection hbn with hbn1 hbn2 hbn3
              subst hbn1 hbn2
              rw [Nat.zero_add] at hcc hcd
              rw [hcc, ← hcd, hcE]
            clear hown' hgrow hcE
            by_cases h1 : NE = 1
            · have hfin := Lib.hid (HLA.out h1)
              have h1' : ((NE : Int) == 1) = true := by rw [h1]; rfl
              clear HLA HNE h1
              go_wp2
              go_ret
              exact ⟨⟨_, rfl, .inr ⟨_, hfin.out, by simp, own_mono HO7.out hz_w1⟩⟩, hB_w1.trans (hb7.mono hz_w1)⟩
            · have hnx := Lib.hid (HNE.out h1)
              have h1' : ((NE : Int) == 1) = false := beq_eq_false_iff_ne.2 (by omega)
              clear HLA HNE h1
              go_wp2
              go_roundw
              case rel => exact RFOut.mk (out ++ [(E : Int)]) E rfl (by rw [List.length_append]; simp; omega) (by omega) (by omega) hnx HO7.out hb7
              case measure => first | (simp [intOf]; done) | (simp [intOf]; omega)
    · obtain ⟨G, rfl⟩ : ∃ G : Nat, a = (G : Int) := ⟨a.toNat, by omega⟩
      have hd1 : decide ((G : Int) < 0) = false := decide_eq_false (by omega)
      have hd2 : decide ((0 : Int) ≤ G) = true := decide_eq_true (by omega)
      have hGl : G < l.length := by omega
      have hG1 : (G : Int) < l.length := by omega
      have hG2 : ¬ l.length ≤ G := by omega
      go_wp2
      go_loopw [8, 9] (fun b i wr => RFInn c l wo (G : Int) b i wr) (fun _ i _ => l.length - (intOf i).toNat)
      case atStart => exact RFInn.mk ((G : Int) + 1).toNat (-1) (by omega) (by omega) (by first | (congr 1; done) | (congr 1; omega)) rfl (Lib.hid (PkAt.start c l f2)) (Below.refl _ _)
      case round =>
        obtain ⟨k, B, hak, hkl, rfl, rfl, hP, hb⟩ := hrel
        have hBr : Below w.heap.size w wr := HBo.out.trans (hb.mono (by omega))
        have hb2 := hb
        have hs2 := hb.size
        have hBd := hP.out.bd
        obtain ⟨q0, q1, q2, q3, q4, q5⟩ := HCo.out.block (hb.block w.heap.size hswo)
        have hwr1 : w.heap.size < wr.heap.size := by omega
        by_cases hkt : k < l.length
        · obtain ⟨bn, on, hbn, hbl, hcn⟩ := (HNr.out.below (B := wo.heap.size) hb2).at_ k hkt
          injection hbn with hbn
          injection hbn with hbn1 hbn2 hbn3
          subst hbn1 hbn2
          rw [arrQ_done c l hkt, Nat.zero_add] at hcn
          obtain ⟨b', off', rfl, hb1, hj1, hj2⟩ := (HX.out.below hBr).atJ k hkt
          have hbk := HVJ.out.2.1 k hkt
          have hb3 : b' < wr.heap.size := by omega
          have hgl : g < wr.heap.size := by omega
          have hk1 : (k : Int) < l.length := by omega
          have hk2 : ¬ l.length ≤ k := by omega
          have hNb := need_bd c l k
          have HS1 := Lib.hid (fun h => hP.out.skip (k := k) h)
          have HS2 := Lib.hid (fun h1 h2 h3 => hP.out.low (k := k) h1 h2 h3)
          have HS3 := Lib.hid (fun h1 h2 => hP.out.stay (k := k) h1 h2)
          obtain ⟨b'', off'', he, _, hj3, hj4⟩ := (HX.out.below hBr).atJ G hGl
          cases he
          have hbG := HVJ.out.2.1 G hGl
          have hfo : folB c l (G : Int) k = decide (hgt l k - hgt l G ≤ c.ga) := by rw [folB_nat, decide_eq_true (show G < k by omega), Bool.true_and]
          by_cases had : hgt l k - hgt l G ≤ c.ga
          · have hfo2 : folB c l (G : Int) k = true := hfo.trans (decide_eq_true had)
            have HT1 := Lib.hid (fun h => HS1.out (.inl h))
            have HT2 := Lib.hid (fun h1 h3 => HS2.out h1 hfo2 h3)
            have HT3 := Lib.hid (fun h2 => HS3.out hfo2 h2)
            generalize hgt l k = XK at *
            generalize hgt l G = XG at *
            have hq1 : decide (c.ga < XK - XG) = false := decide_eq_false (by omega)
            clear HS1 HS2 HS3 hfo hfo2 hP
            by_cases hN0 : need c l k = 0
            · have h4 := Lib.hid (HT1.out hN0)
              rw [hN0] at hcn
              go_wp2
              (refine wp_region_later (by kernel_rfl) (by kernel_rfl) ?_; (repeat (go_big_quiet_step ((fail)))); refine wpQuiet_nil ?_)
              intro w4 hb
              have hb5 := hb2.trans (hb.mono hs2)
              go_wp2
              go_roundw
              case rel => exact RFInn.mk (k + 1) B (by omega) (by omega) (by go_num) rfl h4 hb5
              case measure => first | (simp [intOf]; done) | (simp [intOf]; omega)
            · rcases hBd with rfl | ⟨hB0, hBl⟩
              · have h4 := Lib.hid (HT2.out (by omega) (.inl (by omega)))
                generalize need c l k = N at *
                have hN1 : ((N : Int) == 0) = false := beq_eq_false_iff_ne.2 (by omega)
                go_wp2
                (refine wp_region_later (by kernel_rfl) (by kernel_rfl) ?_; (repeat (go_big_quiet_step ((fail)))); refine wpQuiet_nil ?_)
                intro w4 hb
                have hb5 := hb2.trans (hb.mono hs2)
                have hs4 := hb.size
                clear hb
                go_wp2
                (refine wp_region_later (by kernel_rfl) (by kernel_rfl) ?_; (repeat (go_big_quiet_step ((fail)))); refine wpQuiet_nil ?_)
                intro w5 hb
                have hb6 := hb5.trans (hb.mono (by omega))
                go_wp2
                go_roundw
                case rel => exact RFInn.mk (k + 1) k (by omega) (by omega) (by go_num) rfl h4 hb6
                case measure => first | (simp [intOf]; done) | (simp [intOf]; omega)
              · obtain ⟨E, rfl⟩ : ∃ E : Nat, B = (E : Int) := ⟨B.toNat, by omega⟩
                have hEl : E < l.length := by omega
                obtain ⟨bn, on, hbn, hbl2, hcE⟩ := (HNr.out.below (B := wo.heap.size) hb2).at_ E hEl
                injection hbn with hbn
                injection hbn with hbn1 hbn2 hbn3
                subst hbn1 hbn2
                rw [arrQ_done c l hEl, Nat.zero_add] at hcE
                have hE1 : (E : Int) < l.length := by omega
                have hE2 : ¬ l.length ≤ E := by omega
                have hE3 : decide ((E : Int) < 0) = false := decide_eq_false (by omega)
                have HU2 := Lib.hid (fun h1 h3 => HT2.out h1 h3)
                have HU3 := Lib.hid (fun h2 => HT3.out h2)
                rw [show ((E : Int)).toNat = E by simp] at HU2 HU3
                clear HT2 HT3
                generalize need c l k = N at *
                generalize need c l E = NE at *
                have hN1 : ((N : Int) == 0) = false := beq_eq_false_iff_ne.2 (by omega)
                by_cases hlo : N < NE
                · have h4 := Lib.hid (HU2.out (by omega) (by first | omega | (right; exact hlo)))
                  have hlo2 : decide ((N : Int) < NE) = true := decide_eq_true (by omega)
                  go_wp2
                  (refine wp_region_later (by kernel_rfl) (by kernel_rfl) ?_; (repeat (go_big_quiet_step ((fail)))); refine wpQuiet_nil ?_)
                  intro w4 hb
                  have hb5 := hb2.trans (hb.mono hs2)
                  have hs4 := hb.size
                  have hcn4 : w4.cell? ⟨g, k, none⟩ = some (.int .i64 (N : Int)) := (hb.cell (p := ⟨g, k, none⟩) hgl).trans hcn
                  have hcE4 : w4.cell? ⟨g, E, none⟩ = some (.int .i64 (NE : Int)) := (hb.cell (p := ⟨g, E, none⟩) hgl).trans hcE
                  have hg4 : g < w4.heap.size := by omega
                  clear hb
                  go_wp2
                  (refine wp_region_later (by kernel_rfl) (by kernel_rfl) ?_; (repeat (go_big_quiet_step ((fail)))); refine wpQuiet_nil ?_)
                  intro w5 hb
                  have hb6 := hb5.trans (hb.mono (by omega))
                  go_wp2
                  go_roundw
                  case rel => exact RFInn.mk (k + 1) k (by omega) (by omega) (by go_num) rfl h4 hb6
                  case measure => first | (simp [intOf]; done) | (simp [intOf]; omega)
                · have h4 := Lib.hid (HU3.out (by first | omega | exact ⟨by omega, hlo⟩))
                  have hlo2 : decide ((N : Int) < NE) = false := decide_eq_false (by omega)
                  have hlo3 : decide (N < NE) = false := decide_eq_false (by omega)
                  go_wp2
                  (refine wp_region_later (by kernel_rfl) (by kernel_rfl) ?_; (repeat (go_big_quiet_step ((fail)))); refine wpQuiet_nil ?_)
                  intro w4 hb
                  have hb5 := hb2.trans (hb.mono hs2)
                  have hs4 := hb.size
                  have hcn4 : w4.cell? ⟨g, k, none⟩ = some (.int .i64 (N : Int)) := (hb.cell (p := ⟨g, k, none⟩) hgl).trans hcn
                  have hcE4 : w4.cell? ⟨g, E, none⟩ = some (.int .i64 (NE : Int)) := (hb.cell (p := ⟨g, E, none⟩) hgl).trans hcE
                  have hg4 : g < w4.heap.size := by omega
                  clear hb
                  go_wp2
                  (refine wp_region_later (by kernel_rfl) (by kernel_rfl) ?_; (repeat (go_big_quiet_step ((fail)))); refine wpQuiet_nil ?_)
                  intro w5 hb
                  have hb6 := hb5.trans (hb.mono (by omega))
                  go_wp2
                  go_roundw
                  case rel => exact RFInn.mk (k + 1) E (by omega) (by omega) (by go_num) rfl h4 hb6
                  case measure => first | (simp [intOf]; done) | (simp [intOf]; omega)
          · have hfo2 : folB c l (G : Int) k = false := hfo.trans (decide_eq_false had)
            have h4 := Lib.hid (HS1.out (.inr hfo2))
            generalize hgt l k = XK at *
            generalize hgt l G = XG at *
            have hq1 : decide (c.ga < XK - XG) = true := decide_eq_true (by omega)
            clear HS1 HS2 HS3 hfo hfo2 hP
            by_cases hN0 : need c l k = 0
            · rw [hN0] at hcn
              go_wp2
              (refine wp_region_later (by kernel_rfl) (by kernel_rfl) ?_; (repeat (go_big_quiet_step ((fail)))); refine wpQuiet_nil ?_)
              intro w4 hb
              have hb5 := hb2.trans (hb.mono hs2)
              go_wp2
              go_roundw
              case rel => exact RFInn.mk (k + 1) B (by omega) (by omega) (by go_num) rfl h4 hb5
              case measure => first | (simp [intOf]; done) | (simp [intOf]; omega)
            · generalize need c l k = N at *
              have hN1 : ((N : Int) == 0) = false := beq_eq_false_iff_ne.2 (by omega)
              go_wp2
              (refine wp_region_later (by kernel_rfl) (by kernel_rfl) ?_; (repeat (go_big_quiet_step ((fail)))); refine wpQuiet_nil ?_)
              intro w4 hb
              have hb5 := hb2.trans (hb.mono hs2)
              go_wp2
              go_roundw
              case rel => exact RFInn.mk (k + 1) B (by omega) (by omega) (by go_num) rfl h4 hb5
              case measure => first | (simp [intOf]; done) | (simp [intOf]; omega)
        · have hkn : k = l.length := by omega
          have hdn := hP.out
          rw [hkn] at hdn
          have hBn : B = nxt c l (G : Int) := hdn.done
          have HO3 := Lib.hid (own_later HO.out hb2)
          have hb6 : Below w1.heap.size w1 wr := HBo1.out.trans (hb2.mono hs1o)
          have hs6 := hb6.size
          have HN3 := Lib.hid (HNr.out.below (B := wo.heap.size) hb2)
          clear hdn hP hkn
          by_cases hneg2 : B < 0
          · have hfin : Hid (few c l = none) := Lib.hid (hf.out.elim fun f hf => hf.nil (by rw [← hBn]; exact hneg2))
            clear hBn HO3 HN3
            go_wp2
            go_ret
            exact ⟨⟨_, rfl, .inl ⟨hfin.out, rfl⟩⟩, hBr⟩
          · have hnb := nxt_bd (c := c) (l := l) (a := (G : Int)) (by rw [← hBn]; exact hneg2) f2
            rw [← hBn] at hnb
            obtain ⟨E, rfl⟩ : ∃ E : Nat, B = (E : Int) := ⟨B.toNat, by omega⟩
            have hEl : E < l.length := by omega
            have hE1 : (E : Int) < l.length := by omega
            have hE2 : ¬ l.length ≤ E := by omega
            obtain ⟨bn, on, hbn, hgl, hcE⟩ := HN3.out.at_ E hEl
            injection hbn with hbn
            injection hbn with hbn1 hbn2 hbn3
            subst hbn1 hbn2
            rw [arrQ_done c l hEl, Nat.zero_add] at hcE
            have hla : need c l E = 1 → few c l = some (out ++ [(E : Int)]) := fun h => hf.out.elim fun f hf => by
              have := hf.last (by rw [← hBn]; exact hneg2) (by rw [← hBn]; simpa using h)
              rw [← hBn] at this; exact this
            have hne : need c l E ≠ 1 → ∃ f, FewAt c l (out ++ [(E : Int)]) f E := fun h => hf.out.elim fun f hf => by
              have := hf.next (by rw [← hBn]; exact hneg2) (by rw [← hBn]; simpa using h)
              rw [← hBn] at this; exact this
            have HLA := Lib.hid hla
            have HNE := Lib.hid hne
            generalize need c l E = NE at *
            clear hBn hla hne
            go_wp2_with (at_builtin; go_loud (refine wpList_append_own _ rfl (.tmp 76) (.tmp 78) 25 rfl w1.heap.size 3 i0 (.int .i64 0) 1 8 Try.underlying25 hI0.out hI1.out hI2.out hI3.out rfl (by decide) _ _ _ rfl (HO3.out.alloc _) ⟨wr.heap.size, 0, none⟩ 1 1 [.int .i64 (E : Int)] rfl rfl (news1 _ _ _) (one1 _) (by unfold maxLen; omega) (by omega) (by simp; omega) ?_))
            intro v' w7 hown' hgrow _
            have hb7 : Below w1.heap.size w1 w7 := (below_alloc hb6 _).trans (grown_below hgrow (by simp; omega) (fun q hq => (HO3.out.lt q hq).1))
            have HO7 : Hid (w7.ownsRow w1.heap.size 3 1 v' (out ++ [(E : Int)]).length (icells (out ++ [(E : Int)]))) := by
              rw [List.length_append, icells_app]; exact hown'
            have hcE7 : w7.cell? ⟨g, E, none⟩ = some (.int .i64 (NE : Int)) := by
              have h5 := (HN.out.below hb7).at_ E hEl
              obtain ⟨bn, on, hbn, _, hcc⟩ := h5
              injection hbn with hbn
              injection hbn with hbn1 hbn2 hbn3
              subst hbn1 hbn2
              have h6 := (HNr.out.below (B := wo.heap.size) hb2).at_ E hEl
              obtain ⟨bn, on, hbn, _, hcd⟩ := h6
              injection hbn with hbn
              injection hbn with hbn1 hbn2 hbn3
              subst hbn1 hbn2
              rw [Nat.zero_add] at hcc hcd
              rw [hcc, ← hcd, hcE]
            clear hown' hgrow hcE
            by_cases h1 : NE = 1
            · have hfin := Lib.hid (HLA.out h1)
              have h1' : ((NE : Int) == 1) = true := by rw [h1]; rfl
              clear HLA HNE h1
              go_wp2
              go_ret
              exact ⟨⟨_, rfl, .inr ⟨_, hfin.out, by simp, own_mono HO7.out hz_w1⟩⟩, hB_w1.trans (hb7.mono hz_w1)⟩
            · have hnx := Lib.hid (HNE.out h1)
              have h1' : ((NE : Int) == 1) = false := beq_eq_false_iff_ne.2 (by omega)
              clear HLA HNE h1
              go_wp2
              go_roundw
              case rel => exact RFOut.mk (out ++ [(E : Int)]) E rfl (by rw [List.length_append]; simp; omega) (by omega) (by omega) hnx HO7.out hb7
              case measure => first | (simp [intOf]; done) | (simp [intOf]; omega)
end Go.Proofs.Ytecocbohaggokaa
