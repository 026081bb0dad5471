/- Dogs: the program's fewest. -/
import Derived.Test.YtjgibipficojaaaDoorCnt
import Derived.Test.YtjgibipficojaaaDoorFewM
set_option linter.unusedSimpArgs false
set_option linter.unusedVariables false
namespace Go.Proofs.YtjgibipficojaaaDoor
open Go.RowKit Go.Maps
attribute [local go_sem] Later.cell

/-- A list of dogs as it is handed back: nil if there is none. -/
def FewV (w : World) (base : Nat) (v : Value) (o : Option (List Int)) : Prop := (o = none ∧ v = .slice none 0 0) ∨ (∃ xs, o = some xs ∧ xs ≠ [] ∧ w.ownsRow base 3 1 v xs.length (icells xs))
def FOut (c : Clb) (l : List J) (w1 : World) (v bf : Value) (wr : World) : Prop :=
  ∃ (out : List Int) (a : Int), bf = .int .i64 a ∧ wr.ownsRow w1.heap.size 3 1 v out.length (icells out) ∧ Hid (FewHead c l out a) ∧ Below w1.heap.size w1 wr
theorem FOut.mk {c : Clb} {l : List J} {w1 : World} {v bf : Value} {wr : World} (out : List Int) (a : Int) (h1 : bf = .int .i64 a) (h2 : wr.ownsRow w1.heap.size 3 1 v out.length (icells out)) (h3 : Hid (FewHead c l out a)) (h4 : Below w1.heap.size w1 wr) : FOut c l w1 v bf wr := ⟨out, a, h1, h2, h3, h4⟩
def FInn (c : Clb) (l : List J) (w2 : World) (a : Int) (n : Nat) (i b : Value) (wr : World) : Prop :=
  ∃ (r : Nat) (B : Int), r ≤ n ∧ i = .int .i64 r ∧ b = .int .i64 B ∧ Hid (PickAt c l a r B) ∧ Below w2.heap.size w2 wr
theorem FInn.mk {c : Clb} {l : List J} {w2 : World} {a : Int} {n : Nat} {i b : Value} {wr : World} (r : Nat) (B : Int) (h1 : r ≤ n) (h2 : i = .int .i64 r) (h3 : b = .int .i64 B) (h4 : Hid (PickAt c l a r B)) (h5 : Below w2.heap.size w2 wr) : FInn c l w2 a n i b wr := ⟨r, B, h1, h2, h3, h4, h5⟩

set_option maxRecDepth 20000 in
set_option maxHeartbeats 8000000 in
theorem fewest_any (c : Clb) (A : Option Addr) (len cap : Nat) (l : List J) (w : World) (hv1 : vC c = true) (hv2 : vJ l = true) (hx : Rows 2 jointV dJ w w.heap.size A len l) :
    Calls Tryd.prog 20 #[climbV c, .slice A len cap] w fun e w' => (∃ v, e = .returned v ∧ FewV w' w.heap.size v (few c l)) ∧ Below w.heap.size w w' := by
  have hvj := vJ_spec hv2
  rw [hx.1] at hvj
  have hlen2 : len ≤ 200 := hvj.1
  have c1 := fun W (h : Below w.heap.size w W) => sound_any A len cap l W (by omega) ((hx.below h).more h.size)
  have c2 := fun W (h : Below w.heap.size w W) => counts_any c A len cap l W hv1 hv2 ((hx.below h).more h.size)
  have c3 := fun b D W (h : Below w.heap.size w W) (hb : b < (len : Int)) (hD : D < len) => follows_any c A len cap l b D W (by omega) ((hx.below h).more h.size) hvj.2.1 hb hD
  have C1 := Lib.hid c1
  have C2 := Lib.hid c2
  have C3 := Lib.hid c3
  have HX := Lib.hid hx
  obtain ⟨i0, hi, hz0, hz1, hz2⟩ := info_parts info_int
  have hI0 := Lib.hid hi
  have hI1 := Lib.hid hz0
  have hI2 := Lib.hid hz1
  have hI3 := Lib.hid hz2
  clear hi hz0 hz1 hz2 c1 c2 c3 hx hvj hv1 hv2
  go_enter Tryd.func20, Tryd.ntmps20
  go_wp2_with fail
  refine (C2.out _ (by repeat (first | exact Below.refl _ _ | assumption | refine Below.setCell ?_ (by first | (simp; done) | (simp; omega) | omega) _ | refine Below.drew ?_ | refine below_drewN ?_ _ | refine Below.alloc ?_ (by first | (simp; done) | (simp; omega) | omega) _ | refine below_alloc ?_ _ | refine below_step ?_ (by assumption)))).mono ?_
  rintro e w1 ⟨⟨mb, m, rfl, hM, hmb⟩, hb⟩
  have hmb1 := hM.lt
  have hB_w1 : Below w.heap.size w w1 := (by repeat (first | exact Below.refl _ _ | assumption | refine Below.setCell ?_ (by first | (simp; done) | (simp; omega) | omega) _ | refine Below.drew ?_ | refine below_drewN ?_ _ | refine Below.alloc ?_ (by first | (simp; done) | (simp; omega) | omega) _ | refine below_alloc ?_ _ | refine below_step ?_ (by assumption))); have hz_w1 := hB_w1.size; have hsw10 : w.heap.size < w1.heap.size := Nat.lt_of_lt_of_le (by first | (simp; done) | (simp; omega) | omega) hb.size; have hnw10 : ¬ w.heap.size = w1.heap.size := (by omega); have hmw10 : ¬ w1.heap.size = w.heap.size := (by omega); have hlw10_0 : w.heap.size ≤ w1.heap.size := (by omega); have hlw10_1 : w.heap.size ≤ w1.heap.size + 1 := (by omega); have hlw10_2 : w.heap.size ≤ w1.heap.size + 1 + 1 := (by omega); have hkw10 : w1.cell? ⟨w.heap.size, 0, none⟩ = some (.int .i64 c.fi) := (by rw [hb.cell (p := ⟨w.heap.size, 0, none⟩) (by first | (simp; done) | (simp; omega) | omega)]; first | (go_simp; done) | assumption); have hkw11 : w1.cell? ⟨w.heap.size, 1, none⟩ = some (.int .i64 c.ga) := (by rw [hb.cell (p := ⟨w.heap.size, 1, none⟩) (by first | (simp; done) | (simp; omega) | omega)]; first | (go_simp; done) | assumption); have hkw12 : w1.cell? ⟨w.heap.size, 2, none⟩ = some (.int .i64 c.to) := (by rw [hb.cell (p := ⟨w.heap.size, 2, none⟩) (by first | (simp; done) | (simp; omega) | omega)]; first | (go_simp; done) | assumption); have hkw13 : w1.cell? ⟨w.heap.size, 3, none⟩ = some (.int .i64 c.le) := (by rw [hb.cell (p := ⟨w.heap.size, 3, none⟩) (by first | (simp; done) | (simp; omega) | omega)]; first | (go_simp; done) | assumption); have hkw14 : w1.cell? ⟨w.heap.size, 4, none⟩ = some (.int .i64 c.la) := (by rw [hb.cell (p := ⟨w.heap.size, 4, none⟩) (by first | (simp; done) | (simp; omega) | omega)]; first | (go_simp; done) | assumption); have hkw15 : w1.cell? ⟨w.heap.size, 5, none⟩ = some (.int .i64 c.st) := (by rw [hb.cell (p := ⟨w.heap.size, 5, none⟩) (by first | (simp; done) | (simp; omega) | omega)]; first | (go_simp; done) | assumption); clear hb
  have HM := Lib.hid hM
  clear hM
  go_wp2
  go_loopw [6, 7] (fun v bf wr => FOut c l w1 v bf wr) (fun _ bf _ => (len - intOf bf).toNat)
  case atStart => exact FOut.mk [] (-1) rfl (by exact World.ownsRow_nil w1 _ _ _) (Lib.hid (FewHead.start c l)) (Below.refl _ _)
  case round =>
    obtain ⟨out, a, rfl, hown, hH, hb⟩ := hrel
    obtain ⟨f1, f2, f3, f4⟩ := hH.out
    rw [HX.out.1] at f3
    have hb' := hb
    have hs' := hb.size
    have hMr := HM.out.below hb
    have hB_wr : Below w.heap.size w wr := (by repeat (first | exact Below.refl _ _ | assumption | refine Below.setCell ?_ (by first | (simp; done) | (simp; omega) | omega) _ | refine Below.drew ?_ | refine below_drewN ?_ _ | refine Below.alloc ?_ (by first | (simp; done) | (simp; omega) | omega) _ | refine below_alloc ?_ _ | refine below_step ?_ (by assumption))); have hz_wr := hB_wr.size; have hswr0 : w.heap.size < wr.heap.size := Nat.lt_of_lt_of_le (by first | (simp; done) | (simp; omega) | omega) hb.size; have hnwr0 : ¬ w.heap.size = wr.heap.size := (by omega); have hmwr0 : ¬ wr.heap.size = w.heap.size := (by omega); have hlwr0_0 : w.heap.size ≤ wr.heap.size := (by omega); have hlwr0_1 : w.heap.size ≤ wr.heap.size + 1 := (by omega); have hlwr0_2 : w.heap.size ≤ wr.heap.size + 1 + 1 := (by omega); have hkwr0 : wr.cell? ⟨w.heap.size, 0, none⟩ = some (.int .i64 c.fi) := (by rw [hb.cell (p := ⟨w.heap.size, 0, none⟩) (by first | (simp; done) | (simp; omega) | omega)]; first | (go_simp; done) | assumption); have hkwr1 : wr.cell? ⟨w.heap.size, 1, none⟩ = some (.int .i64 c.ga) := (by rw [hb.cell (p := ⟨w.heap.size, 1, none⟩) (by first | (simp; done) | (simp; omega) | omega)]; first | (go_simp; done) | assumption); have hkwr2 : wr.cell? ⟨w.heap.size, 2, none⟩ = some (.int .i64 c.to) := (by rw [hb.cell (p := ⟨w.heap.size, 2, none⟩) (by first | (simp; done) | (simp; omega) | omega)]; first | (go_simp; done) | assumption); have hkwr3 : wr.cell? ⟨w.heap.size, 3, none⟩ = some (.int .i64 c.le) := (by rw [hb.cell (p := ⟨w.heap.size, 3, none⟩) (by first | (simp; done) | (simp; omega) | omega)]; first | (go_simp; done) | assumption); have hkwr4 : wr.cell? ⟨w.heap.size, 4, none⟩ = some (.int .i64 c.la) := (by rw [hb.cell (p := ⟨w.heap.size, 4, none⟩) (by first | (simp; done) | (simp; omega) | omega)]; first | (go_simp; done) | assumption); have hkwr5 : wr.cell? ⟨w.heap.size, 5, none⟩ = some (.int .i64 c.st) := (by rw [hb.cell (p := ⟨w.heap.size, 5, none⟩) (by first | (simp; done) | (simp; omega) | omega)]; first | (go_simp; done) | assumption); clear hb hB_w1 hlw10_0 hlw10_1 hlw10_2 hkw10 hkw11 hkw12 hkw13 hkw14 hkw15
    obtain ⟨A1, cap1, rfl, hn1, hn2, -, -⟩ := own_ints hown
    have HO := Lib.hid hown
    clear hown
    rcases f4 with ⟨hf, f4⟩ | ⟨g1, g2, g3, g4⟩
    · rcases f4 with ⟨k1, k2⟩ | ⟨k1, k2, k3⟩
      · have hlen0 : ((out.length : Int) == 0) = true := by rw [k1]; rfl
        have hneg0 : a < 0 := by omega
        clear k1 k2
        go_wp2_with fail
        refine (C1.out _ (by repeat (first | exact Below.refl _ _ | assumption | refine Below.setCell ?_ (by first | (simp; done) | (simp; omega) | omega) _ | refine Below.drew ?_ | refine below_drewN ?_ _ | refine Below.alloc ?_ (by first | (simp; done) | (simp; omega) | omega) _ | refine below_alloc ?_ _ | refine below_step ?_ (by assumption)))).mono ?_
        rintro e w2 ⟨⟨v2, rfl, ho2⟩, hb⟩
        obtain ⟨A2, cap2, rfl, hn3, hn4, hI2', -⟩ := own_ints ho2
        have HO2 := Lib.hid (own_later HO.out hb)
        have HM2 := Lib.hid (hMr.below hb)
        have hbz := hb
        clear ho2 HO hMr
        have hB_w2 : Below w.heap.size w w2 := (by repeat (first | exact Below.refl _ _ | assumption | refine Below.setCell ?_ (by first | (simp; done) | (simp; omega) | omega) _ | refine Below.drew ?_ | refine below_drewN ?_ _ | refine Below.alloc ?_ (by first | (simp; done) | (simp; omega) | omega) _ | refine below_alloc ?_ _ | refine below_step ?_ (by assumption))); have hz_w2 := hB_w2.size; have hsw20 : w.heap.size < w2.heap.size := Nat.lt_of_lt_of_le (by first | (simp; done) | (simp; omega) | omega) hb.size; have hnw20 : ¬ w.heap.size = w2.heap.size := (by omega); have hmw20 : ¬ w2.heap.size = w.heap.size := (by omega); have hlw20_0 : w.heap.size ≤ w2.heap.size := (by omega); have hlw20_1 : w.heap.size ≤ w2.heap.size + 1 := (by omega); have hlw20_2 : w.heap.size ≤ w2.heap.size + 1 + 1 := (by omega); have hkw20 : w2.cell? ⟨w.heap.size, 0, none⟩ = some (.int .i64 c.fi) := (by rw [hb.cell (p := ⟨w.heap.size, 0, none⟩) (by first | (simp; done) | (simp; omega) | omega)]; first | (go_simp; done) | assumption); have hkw21 : w2.cell? ⟨w.heap.size, 1, none⟩ = some (.int .i64 c.ga) := (by rw [hb.cell (p := ⟨w.heap.size, 1, none⟩) (by first | (simp; done) | (simp; omega) | omega)]; first | (go_simp; done) | assumption); have hkw22 : w2.cell? ⟨w.heap.size, 2, none⟩ = some (.int .i64 c.to) := (by rw [hb.cell (p := ⟨w.heap.size, 2, none⟩) (by first | (simp; done) | (simp; omega) | omega)]; first | (go_simp; done) | assumption); have hkw23 : w2.cell? ⟨w.heap.size, 3, none⟩ = some (.int .i64 c.le) := (by rw [hb.cell (p := ⟨w.heap.size, 3, none⟩) (by first | (simp; done) | (simp; omega) | omega)]; first | (go_simp; done) | assumption); have hkw24 : w2.cell? ⟨w.heap.size, 4, none⟩ = some (.int .i64 c.la) := (by rw [hb.cell (p := ⟨w.heap.size, 4, none⟩) (by first | (simp; done) | (simp; omega) | omega)]; first | (go_simp; done) | assumption); have hkw25 : w2.cell? ⟨w.heap.size, 5, none⟩ = some (.int .i64 c.st) := (by rw [hb.cell (p := ⟨w.heap.size, 5, none⟩) (by first | (simp; done) | (simp; omega) | omega)]; first | (go_simp; done) | assumption); clear hb hB_wr hlwr0_0 hlwr0_1 hlwr0_2 hkwr0 hkwr1 hkwr2 hkwr3 hkwr4 hkwr5
        have HB2 : Hid (Below w1.heap.size w1 w2) := Lib.hid (hb'.trans (hbz.mono hs'))
        clear hb' hbz
        have hol : sndI l len = sndI l l.length := by rw [HX.out.1]
        have hsl : (sndI l l.length).length = (sndL l l.length).length := by simp [sndI]
        rw [hol, hsl] at hI2' hn3 ⊢
        have hnl : (sndL l l.length).length ≤ len := by have := sndL_len l l.length; rw [HX.out.1] at this ⊢; exact this
        have HI2 := Lib.hid hI2'
        clear hI2' hol hsl
        generalize hnn : (sndL l l.length).length = n at *
        have HNN := Lib.hid hnn
        clear hnn
        go_wp2
        go_loopw [28, 8] (fun i b wr => FInn c l w2 a n i b wr) (fun i _ _ => n - (intOf i).toNat)
        case atStart => exact FInn.mk 0 (-1) (Nat.zero_le _) rfl rfl (Lib.hid (PickAt.start c l a)) (Below.refl _ _)
        case round =>
          obtain ⟨r, B, hr, rfl, rfl, hP, hb⟩ := hrel
          have hb2 := hb
          have hs7 := hb.size
          have hMr := Lib.hid (HM2.out.below hb)
          have hBd := hP.out.bd
          rw [HX.out.1] at hBd
          have hs2 := HB2.out.size
          have hB_wr : Below w.heap.size w wr := (by repeat (first | exact Below.refl _ _ | assumption | refine Below.setCell ?_ (by first | (simp; done) | (simp; omega) | omega) _ | refine Below.drew ?_ | refine below_drewN ?_ _ | refine Below.alloc ?_ (by first | (simp; done) | (simp; omega) | omega) _ | refine below_alloc ?_ _ | refine below_step ?_ (by assumption))); have hz_wr := hB_wr.size; have hswr0 : w.heap.size < wr.heap.size := Nat.lt_of_lt_of_le (by first | (simp; done) | (simp; omega) | omega) hb.size; have hnwr0 : ¬ w.heap.size = wr.heap.size := (by omega); have hmwr0 : ¬ wr.heap.size = w.heap.size := (by omega); have hlwr0_0 : w.heap.size ≤ wr.heap.size := (by omega); have hlwr0_1 : w.heap.size ≤ wr.heap.size + 1 := (by omega); have hlwr0_2 : w.heap.size ≤ wr.heap.size + 1 + 1 := (by omega); have hkwr0 : wr.cell? ⟨w.heap.size, 0, none⟩ = some (.int .i64 c.fi) := (by rw [hb.cell (p := ⟨w.heap.size, 0, none⟩) (by first | (simp; done) | (simp; omega) | omega)]; first | (go_simp; done) | assumption); have hkwr1 : wr.cell? ⟨w.heap.size, 1, none⟩ = some (.int .i64 c.ga) := (by rw [hb.cell (p := ⟨w.heap.size, 1, none⟩) (by first | (simp; done) | (simp; omega) | omega)]; first | (go_simp; done) | assumption); have hkwr2 : wr.cell? ⟨w.heap.size, 2, none⟩ = some (.int .i64 c.to) := (by rw [hb.cell (p := ⟨w.heap.size, 2, none⟩) (by first | (simp; done) | (simp; omega) | omega)]; first | (go_simp; done) | assumption); have hkwr3 : wr.cell? ⟨w.heap.size, 3, none⟩ = some (.int .i64 c.le) := (by rw [hb.cell (p := ⟨w.heap.size, 3, none⟩) (by first | (simp; done) | (simp; omega) | omega)]; first | (go_simp; done) | assumption); have hkwr4 : wr.cell? ⟨w.heap.size, 4, none⟩ = some (.int .i64 c.la) := (by rw [hb.cell (p := ⟨w.heap.size, 4, none⟩) (by first | (simp; done) | (simp; omega) | omega)]; first | (go_simp; done) | assumption); have hkwr5 : wr.cell? ⟨w.heap.size, 5, none⟩ = some (.int .i64 c.st) := (by rw [hb.cell (p := ⟨w.heap.size, 5, none⟩) (by first | (simp; done) | (simp; omega) | omega)]; first | (go_simp; done) | assumption); clear hb hB_w2 hlw20_0 hlw20_1 hlw20_2 hkw20 hkw21 hkw22 hkw23 hkw24 hkw25
          by_cases hrn : r < n
          · obtain ⟨K, hK⟩ : ∃ K, (sndL l l.length)[r]? = some K := ⟨_, List.getElem?_eq_getElem (by rw [HNN.out]; exact hrn)⟩
            have hKm := (mem_sndL.1 (List.mem_iff_getElem?.2 ⟨r, hK⟩)).1
            rw [HX.out.1] at hKm
            obtain ⟨b, off, rfl, hb0, hc0⟩ := (HI2.out.below hb2).at_ r hrn
            have hcast : (sndI l l.length)[r]?.getD 0 = (K : Int) := cast_at hK
            rw [hcast] at hc0
            have c5 := fun W (h : Below w.heap.size w W) => C3.out a K W h (by omega) hKm
            have hsk := fun h => hP.out.skip hK h
            have hlw := fun h1 h2 h3 => hP.out.low hK h1 h2 h3
            have hst := fun h1 h2 => hP.out.stay hK h1 h2
            have hNb := need_bd c l K
            rw [HX.out.1] at hNb
            have HGK := Lib.hid (needM_get c l K)
            have HSK := Lib.hid (needM_some c l K)
            have HS1 := Lib.hid hsk
            have HS2 := Lib.hid hlw
            have HS3 := Lib.hid hst
            generalize need c l K = N at *
            generalize folB c l a K = F at *
            have hb1 : b < wr.heap.size := by omega
            have hr1 : (r : Int) < n := by omega
            have hr2 : ¬ n ≤ r := by omega
            clear hsk hlw hst hcast
            by_cases hN0 : N = 0
            · have hN1 : decide (0 < N) = false := decide_eq_false (by omega)
              have h4 := Lib.hid (HS1.out (.inl hN0))
              clear c5
              go_wp2_with (at_lookup; refine wpList_mapv_int_ok rfl (.tmp 33) (.tmp 34) 58 rfl lawI Tryd.underlying58 Tryd.underlying3 (zeroI _) rfl hMr.out (K : Int) _ rfl (keyOf_int_mk Tryd.underlying3 (WalkArith.wf_i64 (by omega))) ?_; rw [HGK.out, HSK.out, hN1])
              go_roundw
              case rel => exact FInn.mk (r + 1) B (by omega) (by go_num) rfl h4 hb2
              case measure => simp [intOf]; omega
            · have hN1 : decide (0 < N) = true := decide_eq_true (by omega)
              have C5 := Lib.hid c5
              clear c5
              cases F
              · have h4 := Lib.hid (HS1.out (.inr rfl))
                go_wp2_with (at_lookup; refine wpList_mapv_int_ok rfl (.tmp 33) (.tmp 34) 58 rfl lawI Tryd.underlying58 Tryd.underlying3 (zeroI _) rfl hMr.out (K : Int) _ rfl (keyOf_int_mk Tryd.underlying3 (WalkArith.wf_i64 (by omega))) ?_; rw [HGK.out, HSK.out, hN1])
                refine (C5.out _ (by repeat (first | exact Below.refl _ _ | assumption | refine Below.setCell ?_ (by first | (simp; done) | (simp; omega) | omega) _ | refine Below.drew ?_ | refine below_drewN ?_ _ | refine Below.alloc ?_ (by first | (simp; done) | (simp; omega) | omega) _ | refine below_alloc ?_ _ | refine below_step ?_ (by assumption)))).mono ?_
                rintro e w5 ⟨rfl, hb⟩
                have hb5 := hb2.trans (hb.mono hb2.size)
                go_wp2
                go_roundw
                case rel => exact FInn.mk (r + 1) B (by omega) (by go_num) rfl h4 hb5
                case measure => simp [intOf]; omega
              · rcases hBd with rfl | ⟨hB0, hBl⟩
                · have h4 := Lib.hid (HS2.out (by first | omega | simp) (by first | rfl | trivial) (by first | omega | simp))
                  go_wp2_with (at_lookup; refine wpList_mapv_int_ok rfl (.tmp 33) (.tmp 34) 58 rfl lawI Tryd.underlying58 Tryd.underlying3 (zeroI _) rfl hMr.out (K : Int) _ rfl (keyOf_int_mk Tryd.underlying3 (WalkArith.wf_i64 (by omega))) ?_; rw [HGK.out, HSK.out, hN1])
                  refine (C5.out _ (by repeat (first | exact Below.refl _ _ | assumption | refine Below.setCell ?_ (by first | (simp; done) | (simp; omega) | omega) _ | refine Below.drew ?_ | refine below_drewN ?_ _ | refine Below.alloc ?_ (by first | (simp; done) | (simp; omega) | omega) _ | refine below_alloc ?_ _ | refine below_step ?_ (by assumption)))).mono ?_
                  rintro e w5 ⟨rfl, hb⟩
                  have hb5 := hb2.trans (hb.mono hb2.size)
                  go_wp2
                  go_roundw
                  case rel => exact FInn.mk (r + 1) K (by omega) (by go_num) rfl h4 hb5
                  case measure => simp [intOf]; omega
                · obtain ⟨E, rfl⟩ : ∃ E : Nat, B = (E : Int) := ⟨B.toNat, by omega⟩
                  have HGE := Lib.hid (needM_get c l E)
                  have hEt : ((E : Int)).toNat = E := by simp
                  have HL := Lib.hid (fun h1 h2 => HS2.out h1 h2)
                  have HT := Lib.hid (fun h1 => HS3.out h1)
                  rw [hEt] at HL HT
                  generalize need c l E = NE at *
                  clear hEt HS2 HS3
                  by_cases hlo : N < NE
                  · have h4 := Lib.hid (HL.out (by first | omega | simp) (by first | rfl | trivial) (by first | omega | (right; exact hlo)))
                    go_wp2_with (at_lookup; refine wpList_mapv_int_ok rfl (.tmp 33) (.tmp 34) 58 rfl lawI Tryd.underlying58 Tryd.underlying3 (zeroI _) rfl hMr.out (K : Int) _ rfl (keyOf_int_mk Tryd.underlying3 (WalkArith.wf_i64 (by omega))) ?_; rw [HGK.out, HSK.out, hN1])
                    refine (C5.out _ (by repeat (first | exact Below.refl _ _ | assumption | refine Below.setCell ?_ (by first | (simp; done) | (simp; omega) | omega) _ | refine Below.drew ?_ | refine below_drewN ?_ _ | refine Below.alloc ?_ (by first | (simp; done) | (simp; omega) | omega) _ | refine below_alloc ?_ _ | refine below_step ?_ (by assumption)))).mono ?_
                    rintro e w5 ⟨rfl, hb⟩
                    have hb5 := hb2.trans (hb.mono hb2.size)
                    have hM5 := hMr.out.below hb
                    have hrun : (Instr.lookup 58 (.map (some mb)) (.int .i64 (E : Int)) false).run Tryd.prog w5 = .ok (.int .i64 (NE : Int)) w5 := by have h := hM5.run_int lawI Tryd.underlying58 Tryd.underlying3 (zeroI _) (E : Int) (keyOf_int_mk Tryd.underlying3 (WalkArith.wf_i64 (by omega))); rw [HGE.out] at h; exact h
                    clear hM5
                    go_wp2
                    go_roundw
                    case rel => exact FInn.mk (r + 1) K (by omega) (by go_num) rfl h4 hb5
                    case measure => simp [intOf]; omega
                  · have h4 := Lib.hid (HT.out (by first | rfl | trivial) (by first | omega | exact ⟨by omega, hlo⟩))
                    go_wp2_with (at_lookup; refine wpList_mapv_int_ok rfl (.tmp 33) (.tmp 34) 58 rfl lawI Tryd.underlying58 Tryd.underlying3 (zeroI _) rfl hMr.out (K : Int) _ rfl (keyOf_int_mk Tryd.underlying3 (WalkArith.wf_i64 (by omega))) ?_; rw [HGK.out, HSK.out, hN1])
                    refine (C5.out _ (by repeat (first | exact Below.refl _ _ | assumption | refine Below.setCell ?_ (by first | (simp; done) | (simp; omega) | omega) _ | refine Below.drew ?_ | refine below_drewN ?_ _ | refine Below.alloc ?_ (by first | (simp; done) | (simp; omega) | omega) _ | refine below_alloc ?_ _ | refine below_step ?_ (by assumption)))).mono ?_
                    rintro e w5 ⟨rfl, hb⟩
                    have hb5 := hb2.trans (hb.mono hb2.size)
                    have hM5 := hMr.out.below hb
                    have hrun : (Instr.lookup 58 (.map (some mb)) (.int .i64 (E : Int)) false).run Tryd.prog w5 = .ok (.int .i64 (NE : Int)) w5 := by have h := hM5.run_int lawI Tryd.underlying58 Tryd.underlying3 (zeroI _) (E : Int) (keyOf_int_mk Tryd.underlying3 (WalkArith.wf_i64 (by omega))); rw [HGE.out] at h; exact h
                    clear hM5
                    go_wp2
                    go_roundw
                    case rel => exact FInn.mk (r + 1) E (by omega) (by go_num) rfl h4 hb5
                    case measure => simp [intOf]; omega
          · have hrn' : r = n := by omega
            have hdn := hP.out
            rw [hrn', ← HNN.out] at hdn
            have hBn : B = nxt c l a := hdn.done
            have hnx := fun h => hH.out.next hf h
            rw [← hBn] at hnx
            have hnil := fun h => hf.elim fun f hf => hf.nil (c := c) (l := l) (a := a) h
            rw [← hBn] at hnil
            have HNX := Lib.hid hnx
            have HNIL := Lib.hid hnil
            clear hdn hBn hnx hnil hP hrn'
            by_cases hneg : B < 0
            · have hfin : Hid (few c l = none) := Lib.hid (HNIL.out hneg)
              clear HNX HNIL
              go_wp2
              go_ret
              exact ⟨⟨_, rfl, .inl ⟨hfin.out, rfl⟩⟩, hB_wr⟩
            · obtain ⟨h4, h5, h6⟩ := HNX.out hneg
              have H4 := Lib.hid h4
              have HO3 := Lib.hid (own_later HO2.out hb2)
              have hb6 : Below w1.heap.size w1 wr := HB2.out.trans (hb2.mono hs2)
              have hs6 := hb6.size
              clear h4 HNX HNIL
              go_wp2_with (at_builtin; go_loud (refine wpList_append_own _ rfl (.tmp 61) (.tmp 63) 33 rfl w1.heap.size 3 i0 (.int .i64 0) 1 8 Tryd.underlying33 hI0.out hI1.out hI2.out hI3.out rfl (by decide) _ _ _ rfl (HO3.out.alloc _) ⟨wr.heap.size, 0, none⟩ 1 1 [.int .i64 B] rfl rfl (news1 _ _ _) (one1 _) (by unfold maxLen; omega) (by omega) (by simp; omega) ?_))
              intro v' w7 hown' hgrow _
              have hb7 : Below w1.heap.size w1 w7 := (below_alloc hb6 _).trans (grown_below hgrow (by simp; omega) (fun q hq => (HO3.out.lt q hq).1))
              have HO7 : Hid (w7.ownsRow w1.heap.size 3 1 v' (out ++ [B]).length (icells (out ++ [B]))) := by
                rw [List.length_append, icells_app]; exact hown'
              clear hown' hgrow
              go_wp2
              go_roundw
              case rel => exact FOut.mk (out ++ [B]) B rfl HO7.out H4 hb7
              case measure => simp [intOf]; omega
      · have hlen0 : ((out.length : Int) == 0) = false := by
          cases out with
          | nil => exact absurd rfl k1
          | cons x xs => simp; omega
        obtain ⟨G, hG⟩ : ∃ G : Nat, a = (G : Int) := ⟨a.toNat, by omega⟩
        have hNG := Lib.hid (needM_get c l G)
        have hk3 : 1 < need c l G := by rw [hG] at k3; simpa using k3
        have hrun : (Instr.lookup 58 (.map (some mb)) (.int .i64 a) false).run Tryd.prog wr = .ok (.int .i64 (need c l G : Int)) wr := by
          have h := hMr.run_int lawI Tryd.underlying58 Tryd.underlying3 (zeroI _) a (keyOf_int_mk Tryd.underlying3 (WalkArith.wf_i64 (by omega)))
          rw [hG, hNG.out] at h
          rw [hG]; exact h
        have hk4 : decide (1 < (need c l G : Int)) = true := decide_eq_true (by omega)
        generalize need c l G = NG at *
        clear k1 k3 hG hNG
        go_wp2_with fail
        refine (C1.out _ (by repeat (first | exact Below.refl _ _ | assumption | refine Below.setCell ?_ (by first | (simp; done) | (simp; omega) | omega) _ | refine Below.drew ?_ | refine below_drewN ?_ _ | refine Below.alloc ?_ (by first | (simp; done) | (simp; omega) | omega) _ | refine below_alloc ?_ _ | refine below_step ?_ (by assumption)))).mono ?_
        rintro e w2 ⟨⟨v2, rfl, ho2⟩, hb⟩
        obtain ⟨A2, cap2, rfl, hn3, hn4, hI2', -⟩ := own_ints ho2
        have HO2 := Lib.hid (own_later HO.out hb)
        have HM2 := Lib.hid (hMr.below hb)
        have hbz := hb
        clear ho2 HO hMr
        have hB_w2 : Below w.heap.size w w2 := (by repeat (first | exact Below.refl _ _ | assumption | refine Below.setCell ?_ (by first | (simp; done) | (simp; omega) | omega) _ | refine Below.drew ?_ | refine below_drewN ?_ _ | refine Below.alloc ?_ (by first | (simp; done) | (simp; omega) | omega) _ | refine below_alloc ?_ _ | refine below_step ?_ (by assumption))); have hz_w2 := hB_w2.size; have hsw20 : w.heap.size < w2.heap.size := Nat.lt_of_lt_of_le (by first | (simp; done) | (simp; omega) | omega) hb.size; have hnw20 : ¬ w.heap.size = w2.heap.size := (by omega); have hmw20 : ¬ w2.heap.size = w.heap.size := (by omega); have hlw20_0 : w.heap.size ≤ w2.heap.size := (by omega); have hlw20_1 : w.heap.size ≤ w2.heap.size + 1 := (by omega); have hlw20_2 : w.heap.size ≤ w2.heap.size + 1 + 1 := (by omega); have hkw20 : w2.cell? ⟨w.heap.size, 0, none⟩ = some (.int .i64 c.fi) := (by rw [hb.cell (p := ⟨w.heap.size, 0, none⟩) (by first | (simp; done) | (simp; omega) | omega)]; first | (go_simp; done) | assumption); have hkw21 : w2.cell? ⟨w.heap.size, 1, none⟩ = some (.int .i64 c.ga) := (by rw [hb.cell (p := ⟨w.heap.size, 1, none⟩) (by first | (simp; done) | (simp; omega) | omega)]; first | (go_simp; done) | assumption); have hkw22 : w2.cell? ⟨w.heap.size, 2, none⟩ = some (.int .i64 c.to) := (by rw [hb.cell (p := ⟨w.heap.size, 2, none⟩) (by first | (simp; done) | (simp; omega) | omega)]; first | (go_simp; done) | assumption); have hkw23 : w2.cell? ⟨w.heap.size, 3, none⟩ = some (.int .i64 c.le) := (by rw [hb.cell (p := ⟨w.heap.size, 3, none⟩) (by first | (simp; done) | (simp; omega) | omega)]; first | (go_simp; done) | assumption); have hkw24 : w2.cell? ⟨w.heap.size, 4, none⟩ = some (.int .i64 c.la) := (by rw [hb.cell (p := ⟨w.heap.size, 4, none⟩) (by first | (simp; done) | (simp; omega) | omega)]; first | (go_simp; done) | assumption); have hkw25 : w2.cell? ⟨w.heap.size, 5, none⟩ = some (.int .i64 c.st) := (by rw [hb.cell (p := ⟨w.heap.size, 5, none⟩) (by first | (simp; done) | (simp; omega) | omega)]; first | (go_simp; done) | assumption); clear hb hB_wr hlwr0_0 hlwr0_1 hlwr0_2 hkwr0 hkwr1 hkwr2 hkwr3 hkwr4 hkwr5
        have HB2 : Hid (Below w1.heap.size w1 w2) := Lib.hid (hb'.trans (hbz.mono hs'))
        clear hb' hbz
        have hol : sndI l len = sndI l l.length := by rw [HX.out.1]
        have hsl : (sndI l l.length).length = (sndL l l.length).length := by simp [sndI]
        rw [hol, hsl] at hI2' hn3 ⊢
        have hnl : (sndL l l.length).length ≤ len := by have := sndL_len l l.length; rw [HX.out.1] at this ⊢; exact this
        have HI2 := Lib.hid hI2'
        clear hI2' hol hsl
        generalize hnn : (sndL l l.length).length = n at *
        have HNN := Lib.hid hnn
        clear hnn
        go_wp2
        go_loopw [28, 8] (fun i b wr => FInn c l w2 a n i b wr) (fun i _ _ => n - (intOf i).toNat)
        case atStart => exact FInn.mk 0 (-1) (Nat.zero_le _) rfl rfl (Lib.hid (PickAt.start c l a)) (Below.refl _ _)
        case round =>
          obtain ⟨r, B, hr, rfl, rfl, hP, hb⟩ := hrel
          have hb2 := hb
          have hs7 := hb.size
          have hMr := Lib.hid (HM2.out.below hb)
          have hBd := hP.out.bd
          rw [HX.out.1] at hBd
          have hs2 := HB2.out.size
          have hB_wr : Below w.heap.size w wr := (by repeat (first | exact Below.refl _ _ | assumption | refine Below.setCell ?_ (by first | (simp; done) | (simp; omega) | omega) _ | refine Below.drew ?_ | refine below_drewN ?_ _ | refine Below.alloc ?_ (by first | (simp; done) | (simp; omega) | omega) _ | refine below_alloc ?_ _ | refine below_step ?_ (by assumption))); have hz_wr := hB_wr.size; have hswr0 : w.heap.size < wr.heap.size := Nat.lt_of_lt_of_le (by first | (simp; done) | (simp; omega) | omega) hb.size; have hnwr0 : ¬ w.heap.size = wr.heap.size := (by omega); have hmwr0 : ¬ wr.heap.size = w.heap.size := (by omega); have hlwr0_0 : w.heap.size ≤ wr.heap.size := (by omega); have hlwr0_1 : w.heap.size ≤ wr.heap.size + 1 := (by omega); have hlwr0_2 : w.heap.size ≤ wr.heap.size + 1 + 1 := (by omega); have hkwr0 : wr.cell? ⟨w.heap.size, 0, none⟩ = some (.int .i64 c.fi) := (by rw [hb.cell (p := ⟨w.heap.size, 0, none⟩) (by first | (simp; done) | (simp; omega) | omega)]; first | (go_simp; done) | assumption); have hkwr1 : wr.cell? ⟨w.heap.size, 1, none⟩ = some (.int .i64 c.ga) := (by rw [hb.cell (p := ⟨w.heap.size, 1, none⟩) (by first | (simp; done) | (simp; omega) | omega)]; first | (go_simp; done) | assumption); have hkwr2 : wr.cell? ⟨w.heap.size, 2, none⟩ = some (.int .i64 c.to) := (by rw [hb.cell (p := ⟨w.heap.size, 2, none⟩) (by first | (simp; done) | (simp; omega) | omega)]; first | (go_simp; done) | assumption); have hkwr3 : wr.cell? ⟨w.heap.size, 3, none⟩ = some (.int .i64 c.le) := (by rw [hb.cell (p := ⟨w.heap.size, 3, none⟩) (by first | (simp; done) | (simp; omega) | omega)]; first | (go_simp; done) | assumption); have hkwr4 : wr.cell? ⟨w.heap.size, 4, none⟩ = some (.int .i64 c.la) := (by rw [hb.cell (p := ⟨w.heap.size, 4, none⟩) (by first | (simp; done) | (simp; omega) | omega)]; first | (go_simp; done) | assumption); have hkwr5 : wr.cell? ⟨w.heap.size, 5, none⟩ = some (.int .i64 c.st) := (by rw [hb.cell (p := ⟨w.heap.size, 5, none⟩) (by first | (simp; done) | (simp; omega) | omega)]; first | (go_simp; done) | assumption); clear hb hB_w2 hlw20_0 hlw20_1 hlw20_2 hkw20 hkw21 hkw22 hkw23 hkw24 hkw25
          by_cases hrn : r < n
          · obtain ⟨K, hK⟩ : ∃ K, (sndL l l.length)[r]? = some K := ⟨_, List.getElem?_eq_getElem (by rw [HNN.out]; exact hrn)⟩
            have hKm := (mem_sndL.1 (List.mem_iff_getElem?.2 ⟨r, hK⟩)).1
            rw [HX.out.1] at hKm
            obtain ⟨b, off, rfl, hb0, hc0⟩ := (HI2.out.below hb2).at_ r hrn
            have hcast : (sndI l l.length)[r]?.getD 0 = (K : Int) := cast_at hK
            rw [hcast] at hc0
            have c5 := fun W (h : Below w.heap.size w W) => C3.out a K W h (by omega) hKm
            have hsk := fun h => hP.out.skip hK h
            have hlw := fun h1 h2 h3 => hP.out.low hK h1 h2 h3
            have hst := fun h1 h2 => hP.out.stay hK h1 h2
            have hNb := need_bd c l K
            rw [HX.out.1] at hNb
            have HGK := Lib.hid (needM_get c l K)
            have HSK := Lib.hid (needM_some c l K)
            have HS1 := Lib.hid hsk
            have HS2 := Lib.hid hlw
            have HS3 := Lib.hid hst
            generalize need c l K = N at *
            generalize folB c l a K = F at *
            have hb1 : b < wr.heap.size := by omega
            have hr1 : (r : Int) < n := by omega
            have hr2 : ¬ n ≤ r := by omega
            clear hsk hlw hst hcast
            by_cases hN0 : N = 0
            · have hN1 : decide (0 < N) = false := decide_eq_false (by omega)
              have h4 := Lib.hid (HS1.out (.inl hN0))
              clear c5
              go_wp2_with (at_lookup; refine wpList_mapv_int_ok rfl (.tmp 33) (.tmp 34) 58 rfl lawI Tryd.underlying58 Tryd.underlying3 (zeroI _) rfl hMr.out (K : Int) _ rfl (keyOf_int_mk Tryd.underlying3 (WalkArith.wf_i64 (by omega))) ?_; rw [HGK.out, HSK.out, hN1])
              go_roundw
              case rel => exact FInn.mk (r + 1) B (by omega) (by go_num) rfl h4 hb2
              case measure => simp [intOf]; omega
            · have hN1 : decide (0 < N) = true := decide_eq_true (by omega)
              have C5 := Lib.hid c5
              clear c5
              cases F
              · have h4 := Lib.hid (HS1.out (.inr rfl))
                go_wp2_with (at_lookup; refine wpList_mapv_int_ok rfl (.tmp 33) (.tmp 34) 58 rfl lawI Tryd.underlying58 Tryd.underlying3 (zeroI _) rfl hMr.out (K : Int) _ rfl (keyOf_int_mk Tryd.underlying3 (WalkArith.wf_i64 (by omega))) ?_; rw [HGK.out, HSK.out, hN1])
                refine (C5.out _ (by repeat (first | exact Below.refl _ _ | assumption | refine Below.setCell ?_ (by first | (simp; done) | (simp; omega) | omega) _ | refine Below.drew ?_ | refine below_drewN ?_ _ | refine Below.alloc ?_ (by first | (simp; done) | (simp; omega) | omega) _ | refine below_alloc ?_ _ | refine below_step ?_ (by assumption)))).mono ?_
                rintro e w5 ⟨rfl, hb⟩
                have hb5 := hb2.trans (hb.mono hb2.size)
                go_wp2
                go_roundw
                case rel => exact FInn.mk (r + 1) B (by omega) (by go_num) rfl h4 hb5
                case measure => simp [intOf]; omega
              · rcases hBd with rfl | ⟨hB0, hBl⟩
                · have h4 := Lib.hid (HS2.out (by first | omega | simp) (by first | rfl | trivial) (by first | omega | simp))
                  go_wp2_with (at_lookup; refine wpList_mapv_int_ok rfl (.tmp 33) (.tmp 34) 58 rfl lawI Tryd.underlying58 Tryd.underlying3 (zeroI _) rfl hMr.out (K : Int) _ rfl (keyOf_int_mk Tryd.underlying3 (WalkArith.wf_i64 (by omega))) ?_; rw [HGK.out, HSK.out, hN1])
                  refine (C5.out _ (by repeat (first | exact Below.refl _ _ | assumption | refine Below.setCell ?_ (by first | (simp; done) | (simp; omega) | omega) _ | refine Below.drew ?_ | refine below_drewN ?_ _ | refine Below.alloc ?_ (by first | (simp; done) | (simp; omega) | omega) _ | refine below_alloc ?_ _ | refine below_step ?_ (by assumption)))).mono ?_
                  rintro e w5 ⟨rfl, hb⟩
                  have hb5 := hb2.trans (hb.mono hb2.size)
                  go_wp2
                  go_roundw
                  case rel => exact FInn.mk (r + 1) K (by omega) (by go_num) rfl h4 hb5
                  case measure => simp [intOf]; omega
                · obtain ⟨E, rfl⟩ : ∃ E : Nat, B = (E : Int) := ⟨B.toNat, by omega⟩
                  have HGE := Lib.hid (needM_get c l E)
                  have hEt : ((E : Int)).toNat = E := by simp
                  have HL := Lib.hid (fun h1 h2 => HS2.out h1 h2)
                  have HT := Lib.hid (fun h1 => HS3.out h1)
                  rw [hEt] at HL HT
                  generalize need c l E = NE at *
                  clear hEt HS2 HS3
                  by_cases hlo : N < NE
                  · have h4 := Lib.hid (HL.out (by first | omega | simp) (by first | rfl | trivial) (by first | omega | (right; exact hlo)))
                    go_wp2_with (at_lookup; refine wpList_mapv_int_ok rfl (.tmp 33) (.tmp 34) 58 rfl lawI Tryd.underlying58 Tryd.underlying3 (zeroI _) rfl hMr.out (K : Int) _ rfl (keyOf_int_mk Tryd.underlying3 (WalkArith.wf_i64 (by omega))) ?_; rw [HGK.out, HSK.out, hN1])
                    refine (C5.out _ (by repeat (first | exact Below.refl _ _ | assumption | refine Below.setCell ?_ (by first | (simp; done) | (simp; omega) | omega) _ | refine Below.drew ?_ | refine below_drewN ?_ _ | refine Below.alloc ?_ (by first | (simp; done) | (simp; omega) | omega) _ | refine below_alloc ?_ _ | refine below_step ?_ (by assumption)))).mono ?_
                    rintro e w5 ⟨rfl, hb⟩
                    have hb5 := hb2.trans (hb.mono hb2.size)
                    have hM5 := hMr.out.below hb
                    have hrun : (Instr.lookup 58 (.map (some mb)) (.int .i64 (E : Int)) false).run Tryd.prog w5 = .ok (.int .i64 (NE : Int)) w5 := by have h := hM5.run_int lawI Tryd.underlying58 Tryd.underlying3 (zeroI _) (E : Int) (keyOf_int_mk Tryd.underlying3 (WalkArith.wf_i64 (by omega))); rw [HGE.out] at h; exact h
                    clear hM5
                    go_wp2
                    go_roundw
                    case rel => exact FInn.mk (r + 1) K (by omega) (by go_num) rfl h4 hb5
                    case measure => simp [intOf]; omega
                  · have h4 := Lib.hid (HT.out (by first | rfl | trivial) (by first | omega | exact ⟨by omega, hlo⟩))
                    go_wp2_with (at_lookup; refine wpList_mapv_int_ok rfl (.tmp 33) (.tmp 34) 58 rfl lawI Tryd.underlying58 Tryd.underlying3 (zeroI _) rfl hMr.out (K : Int) _ rfl (keyOf_int_mk Tryd.underlying3 (WalkArith.wf_i64 (by omega))) ?_; rw [HGK.out, HSK.out, hN1])
                    refine (C5.out _ (by repeat (first | exact Below.refl _ _ | assumption | refine Below.setCell ?_ (by first | (simp; done) | (simp; omega) | omega) _ | refine Below.drew ?_ | refine below_drewN ?_ _ | refine Below.alloc ?_ (by first | (simp; done) | (simp; omega) | omega) _ | refine below_alloc ?_ _ | refine below_step ?_ (by assumption)))).mono ?_
                    rintro e w5 ⟨rfl, hb⟩
                    have hb5 := hb2.trans (hb.mono hb2.size)
                    have hM5 := hMr.out.below hb
                    have hrun : (Instr.lookup 58 (.map (some mb)) (.int .i64 (E : Int)) false).run Tryd.prog w5 = .ok (.int .i64 (NE : Int)) w5 := by have h := hM5.run_int lawI Tryd.underlying58 Tryd.underlying3 (zeroI _) (E : Int) (keyOf_int_mk Tryd.underlying3 (WalkArith.wf_i64 (by omega))); rw [HGE.out] at h; exact h
                    clear hM5
                    go_wp2
                    go_roundw
                    case rel => exact FInn.mk (r + 1) E (by omega) (by go_num) rfl h4 hb5
                    case measure => simp [intOf]; omega
          · have hrn' : r = n := by omega
            have hdn := hP.out
            rw [hrn', ← HNN.out] at hdn
            have hBn : B = nxt c l a := hdn.done
            have hnx := fun h => hH.out.next hf h
            rw [← hBn] at hnx
            have hnil := fun h => hf.elim fun f hf => hf.nil (c := c) (l := l) (a := a) h
            rw [← hBn] at hnil
            have HNX := Lib.hid hnx
            have HNIL := Lib.hid hnil
            clear hdn hBn hnx hnil hP hrn'
            by_cases hneg : B < 0
            · have hfin : Hid (few c l = none) := Lib.hid (HNIL.out hneg)
              clear HNX HNIL
              go_wp2
              go_ret
              exact ⟨⟨_, rfl, .inl ⟨hfin.out, rfl⟩⟩, hB_wr⟩
            · obtain ⟨h4, h5, h6⟩ := HNX.out hneg
              have H4 := Lib.hid h4
              have HO3 := Lib.hid (own_later HO2.out hb2)
              have hb6 : Below w1.heap.size w1 wr := HB2.out.trans (hb2.mono hs2)
              have hs6 := hb6.size
              clear h4 HNX HNIL
              go_wp2_with (at_builtin; go_loud (refine wpList_append_own _ rfl (.tmp 61) (.tmp 63) 33 rfl w1.heap.size 3 i0 (.int .i64 0) 1 8 Tryd.underlying33 hI0.out hI1.out hI2.out hI3.out rfl (by decide) _ _ _ rfl (HO3.out.alloc _) ⟨wr.heap.size, 0, none⟩ 1 1 [.int .i64 B] rfl rfl (news1 _ _ _) (one1 _) (by unfold maxLen; omega) (by omega) (by simp; omega) ?_))
              intro v' w7 hown' hgrow _
              have hb7 : Below w1.heap.size w1 w7 := (below_alloc hb6 _).trans (grown_below hgrow (by simp; omega) (fun q hq => (HO3.out.lt q hq).1))
              have HO7 : Hid (w7.ownsRow w1.heap.size 3 1 v' (out ++ [B]).length (icells (out ++ [B]))) := by
                rw [List.length_append, icells_app]; exact hown'
              clear hown' hgrow
              go_wp2
              go_roundw
              case rel => exact FOut.mk (out ++ [B]) B rfl HO7.out H4 hb7
              case measure => simp [intOf]; omega
    · have hlen0 : ((out.length : Int) == 0) = false := by
        cases out with
        | nil => exact absurd rfl g1
        | cons x xs => simp; omega
      have hrun : (Instr.lookup 58 (.map (some mb)) (.int .i64 a) false).run Tryd.prog wr = .ok (.int .i64 1) wr := by
        have h := hMr.run_int lawI Tryd.underlying58 Tryd.underlying3 (zeroI _) a (keyOf_int_mk Tryd.underlying3 (WalkArith.wf_i64 (by omega)))
        obtain ⟨D, rfl⟩ : ∃ D : Nat, a = (D : Int) := ⟨a.toNat, by omega⟩
        rw [needM_get] at h
        rw [h]
        have : need c l D = 1 := by simpa using g3
        rw [this]; rfl
      have hfin : Hid (FewV wr w.heap.size (.slice A1 out.length cap1) (few c l)) := Lib.hid (.inr ⟨out, g4, g1, own_mono HO.out hz_w1⟩)
      clear g4 g1 hH HO
      go_wp2
      go_ret
      exact ⟨⟨_, rfl, hfin.out⟩, hB_wr⟩
end Go.Proofs.YtjgibipficojaaaDoor
