/- Joined by merge.py from: On Bear Bear2 Bear3 Bear4. -/
import Derived.Test.YtkphkknlenjjhaaOnM
import Derived.OwnWalk
import Derived.Test.YtkphkknlenjjhaaSnd
import Derived.Deep.RegionWith
import Derived.Test.YtkphkknlenjjhaaBearM
import Derived.Test.YtkphkknlenjjhaaDogs3
set_option linter.unusedSimpArgs false
set_option linter.unusedVariables false
namespace Go.Proofs.Ytkphkknlenjjhaa
open Go.RowKit
attribute [local go_sem] Later.cell

abbrev wallV (c : Clb) (A : Option Addr) (len cap : Nat) (A' : Option Addr) (n cap' : Nat) : Value := .agg #[.int .i64 c.fi, .int .i64 c.ga, .int .i64 c.to, .int .i64 c.le, .int .i64 c.la, .int .i64 c.st, .slice A len cap, .slice A' n cap']

set_option maxHeartbeats 2000000 in
theorem height_any (c : Clb) (A : Option Addr) (len cap : Nat) (l : List J) (A' : Option Addr) (n cap' : Nat) (ds : List Int) (k : Nat) (w : World) (hm : len ≤ 9223372036854775807) (hm' : n ≤ 9223372036854775807) (hx : Rows 2 jointV dJ w w.heap.size A len l) (hy : Ints w w.heap.size A' n ds) (hok : WallOk l ds) (hk : k < n) :
    Calls Try.prog 61 #[wallV c A len cap A' n cap', .int .i64 k] w fun e w' => e = .returned (.int .i64 (hD l ds k)) ∧ Below w.heap.size w w' := by
  have hi := hok.idx k (by rw [hy.1]; exact hk)
  rw [hx.1] at hi
  obtain ⟨b', off', rfl, hb0', hc'⟩ := hy.at_ k hk
  have hD' : hD l ds k = hI l (num ds k) := rfl
  change w.cell? _ = some (.int .i64 (num ds k)) at hc'
  generalize num ds k = D at *
  obtain ⟨d, rfl⟩ : ∃ d : Nat, D = d := ⟨D.toNat, by omega⟩
  rw [hI_nat] at hD'
  rw [hD']
  have hd : d < len := by omega
  have hd2 : (d : Int) < len := by omega
  have hk2 : (k : Int) < n := by omega
  obtain ⟨b, off, rfl, hb0, hc1, hc2⟩ := hx.atJ d hd
  generalize hgt l d = H at *
  generalize sndB l d = Y at *
  clear hi hD' hx hy hok
  go_enter Try.func61, Try.ntmps61
  go_wp2
  (refine wp_region_later (by kernel_rfl) (by kernel_rfl) ?_; (repeat (go_big_quiet_step ((fail)))); refine wpQuiet_nil ?_)
  intro w4 hb
  go_wp2
  go_ret
  exact ⟨rfl, (by repeat (first | exact Below.refl _ _ | assumption | refine Below.setCell ?_ (by first | (simp; done) | (simp; omega) | omega) _ | refine Below.drew ?_ | refine below_drewN ?_ _ | refine Below.alloc ?_ (by first | (simp; done) | (simp; omega) | omega) _ | refine below_alloc ?_ _ | refine below_step ?_ (by assumption)))⟩

/-- The climb's cells, and the wall's two slices, at the head of block g. -/
def OnR (w0 : World) (f n : Nat) (L : Nat → List Int) (v i : Value) (wr : World) : Prop :=
  ∃ k : Nat, f ≤ k ∧ k ≤ n ∧ i = .int .i64 k ∧ wr.ownsRow w0.heap.size 3 1 v (L k).length (icells (L k)) ∧ Below w0.heap.size w0 wr
theorem OnR.mk {w0 : World} {f n : Nat} {L : Nat → List Int} {v i : Value} {wr : World} (k : Nat) (h0 : f ≤ k) (h1 : k ≤ n) (h2 : i = .int .i64 k) (h3 : wr.ownsRow w0.heap.size 3 1 v (L k).length (icells (L k))) (h4 : Below w0.heap.size w0 wr) : OnR w0 f n L v i wr := ⟨k, h0, h1, h2, h3, h4⟩

set_option maxRecDepth 20000 in
set_option maxHeartbeats 2000000 in
theorem on_any (c : Clb) (A : Option Addr) (len cap : Nat) (l : List J) (A' : Option Addr) (n cap' : Nat) (ds : List Int) (f : Nat) (w : World) (hv : vC c = true) (hm : len ≤ 9223372036854775807) (hm' : n ≤ 100000000) (hx : Rows 2 jointV dJ w w.heap.size A len l) (hy : Ints w w.heap.size A' n ds) (hok : WallOk l ds) (hf : f < n) :
    Calls Try.prog 45 #[wallV c A len cap A' n cap', .int .i64 f] w fun e w' => (∃ v, e = .returned v ∧ w'.ownsRow w.heap.size 3 1 v (onI c l ds f n).length (icells (onI c l ds f n))) ∧ Below w.heap.size w w' := by
  have c1 := fun k W (h : Below w.heap.size w W) (hk : k < n) => height_any c A len cap l A' n cap' ds k W hm (by omega) ((hx.below h).more h.size) ((hy.below h).more h.size) hok hk
  have hle := (vC_spec hv).2.2.2.1
  have hyl := hy.1
  have hbf := hok.bd f (by rw [hyl]; exact hf)
  obtain ⟨i0, hi, hz0, hz1, hz2⟩ := info_parts info_int
  have hI0 := Lib.hid hi
  have hI1 := Lib.hid hz0
  have hI2 := Lib.hid hz1
  have hI3 := Lib.hid hz2
  have C1 := Lib.hid c1
  have HK := Lib.hid hok
  have HYL := Lib.hid hyl
  have hst := onI_start c l ds f f (Nat.le_refl _)
  have HST := Lib.hid hst
  clear c1 hx hy hok hi hz0 hz1 hz2 hyl hst hv
  go_enter Try.func45, Try.ntmps45
  go_wp2
  go_loopw [5, 6] (fun v i wr => OnR (w.alloc (.cells #[.int .i64 c.fi, .int .i64 c.ga, .int .i64 c.to, .int .i64 c.le, .int .i64 c.la, .int .i64 c.st, .slice A len cap, .slice A' n cap'] 99)) f n (onI c l ds f) v i wr) (fun _ i _ => n - (intOf i).toNat)
  case atStart => exact OnR.mk f (Nat.le_refl _) (by omega) rfl (by rw [HST.out]; exact World.ownsRow_nil _ _ _ _) (Below.refl _ _)
  case round =>
    obtain ⟨k, hfk, hk, rfl, hown, hb⟩ := hrel
    have hb3 := hb
    have hs3 := hb.size
    have hB_wr : Below w.heap.size w wr := (by repeat (first | exact Below.refl _ _ | assumption | refine Below.setCell ?_ (by first | (simp; done) | (simp; omega) | omega) _ | refine Below.drew ?_ | refine below_drewN ?_ _ | refine Below.alloc ?_ (by first | (simp; done) | (simp; omega) | omega) _ | refine below_alloc ?_ _ | refine below_step ?_ (by assumption))); have hz_wr := hB_wr.size; have hswr0 : w.heap.size < wr.heap.size := Nat.lt_of_lt_of_le (by first | (simp; done) | (simp; omega) | omega) hb.size; have hnwr0 : ¬ w.heap.size = wr.heap.size := (by omega); have hmwr0 : ¬ wr.heap.size = w.heap.size := (by omega); have hlwr0_0 : w.heap.size ≤ wr.heap.size := (by omega); have hlwr0_1 : w.heap.size ≤ wr.heap.size + 1 := (by omega); have hlwr0_2 : w.heap.size ≤ wr.heap.size + 1 + 1 := (by omega); have hkwr0 : wr.cell? ⟨w.heap.size, 0, none⟩ = some (.int .i64 c.fi) := (by rw [hb.cell (p := ⟨w.heap.size, 0, none⟩) (by first | (simp; done) | (simp; omega) | omega)]; first | (go_simp; done) | assumption); have hkwr1 : wr.cell? ⟨w.heap.size, 1, none⟩ = some (.int .i64 c.ga) := (by rw [hb.cell (p := ⟨w.heap.size, 1, none⟩) (by first | (simp; done) | (simp; omega) | omega)]; first | (go_simp; done) | assumption); have hkwr2 : wr.cell? ⟨w.heap.size, 2, none⟩ = some (.int .i64 c.to) := (by rw [hb.cell (p := ⟨w.heap.size, 2, none⟩) (by first | (simp; done) | (simp; omega) | omega)]; first | (go_simp; done) | assumption); have hkwr3 : wr.cell? ⟨w.heap.size, 3, none⟩ = some (.int .i64 c.le) := (by rw [hb.cell (p := ⟨w.heap.size, 3, none⟩) (by first | (simp; done) | (simp; omega) | omega)]; first | (go_simp; done) | assumption); have hkwr4 : wr.cell? ⟨w.heap.size, 4, none⟩ = some (.int .i64 c.la) := (by rw [hb.cell (p := ⟨w.heap.size, 4, none⟩) (by first | (simp; done) | (simp; omega) | omega)]; first | (go_simp; done) | assumption); have hkwr5 : wr.cell? ⟨w.heap.size, 5, none⟩ = some (.int .i64 c.st) := (by rw [hb.cell (p := ⟨w.heap.size, 5, none⟩) (by first | (simp; done) | (simp; omega) | omega)]; first | (go_simp; done) | assumption); have hkwr6 : wr.cell? ⟨w.heap.size, 6, none⟩ = some (.slice A len cap) := (by rw [hb.cell (p := ⟨w.heap.size, 6, none⟩) (by first | (simp; done) | (simp; omega) | omega)]; first | (go_simp; done) | assumption); have hkwr7 : wr.cell? ⟨w.heap.size, 7, none⟩ = some (.slice A' n cap') := (by rw [hb.cell (p := ⟨w.heap.size, 7, none⟩) (by first | (simp; done) | (simp; omega) | omega)]; first | (go_simp; done) | assumption); clear hb
    obtain ⟨A1, cap1, rfl, hn1, hn2, -, -⟩ := own_ints hown
    have HO := Lib.hid hown
    have hLen := onI_len c l ds f k
    clear hown
    by_cases hkn : k < n
    · have hbk := HK.out.bd k (by rw [HYL.out]; exact hkn)
      have hyes := fun h => onI_yes (c := c) (l := l) (ds := ds) hfk (h : hD l ds k ≤ hD l ds f + c.le)
      have hstop := fun h => onI_stop (c := c) HK.out (f := f) (k := k) h ds.length (by rw [HYL.out]; exact hk) (Nat.le_refl _)
      rw [HYL.out] at hstop
      have hkn1 : (k : Int) < n := by omega
      have hkn2 : decide ((k : Int) < n) = true := decide_eq_true hkn1
      have HYS := Lib.hid hyes
      have HSP := Lib.hid hstop
      clear hyes hstop
      by_cases hle2 : hD l ds k ≤ hD l ds f + c.le
      · have HN := Lib.hid (HYS.out hle2)
        have hdec : decide (hD l ds k ≤ hD l ds f + c.le) = true := decide_eq_true hle2
        clear HYS HSP
        go_wp2
        (refine wp_region_later (by kernel_rfl) (by kernel_rfl) ?_; (repeat (go_big_quiet_step ((go_at_call 61; exact later_call (C1.out _ _ (hB_wr.trans ((‹Later wr›).h.mono hz_wr)) (by assumption)))))); refine wpQuiet_nil ?_)
        intro w4 hb
        have hb4 := hb3.trans (hb.mono hs3)
        have hs4 := hb4.size
        have HO4 := Lib.hid (own_later HO.out hb)
        clear hb
        go_wp2_with (at_builtin; go_loud (refine wpList_append_own _ rfl (.tmp 28) (.tmp 30) 45 rfl (w.alloc (.cells #[.int .i64 c.fi, .int .i64 c.ga, .int .i64 c.to, .int .i64 c.le, .int .i64 c.la, .int .i64 c.st, .slice A len cap, .slice A' n cap'] 99)).heap.size 3 i0 (.int .i64 0) 1 8 Try.underlying45 hI0.out hI1.out hI2.out hI3.out rfl (by decide) _ _ _ rfl (HO4.out.alloc _) ⟨w4.heap.size, 0, none⟩ 1 1 [.int .i64 (k : Int)] rfl rfl (news1 _ _ _) (one1 _) (by unfold maxLen; omega) (by omega) (by simp at hs4 ⊢; omega) ?_))
        intro v' w7 hown' hgrow _
        have hb7 : Below (w.alloc (.cells #[.int .i64 c.fi, .int .i64 c.ga, .int .i64 c.to, .int .i64 c.le, .int .i64 c.la, .int .i64 c.st, .slice A len cap, .slice A' n cap'] 99)).heap.size (w.alloc (.cells #[.int .i64 c.fi, .int .i64 c.ga, .int .i64 c.to, .int .i64 c.le, .int .i64 c.la, .int .i64 c.st, .slice A len cap, .slice A' n cap'] 99)) w7 := (below_alloc hb4 _).trans (grown_below hgrow (by simp at hs4 ⊢; omega) (fun q hq => (HO4.out.lt q hq).1))
        have HO7 : Hid (w7.ownsRow (w.alloc (.cells #[.int .i64 c.fi, .int .i64 c.ga, .int .i64 c.to, .int .i64 c.le, .int .i64 c.la, .int .i64 c.st, .slice A len cap, .slice A' n cap'] 99)).heap.size 3 1 v' (onI c l ds f k ++ [(k : Int)]).length (icells (onI c l ds f k ++ [(k : Int)]))) := by
          have e : (w.alloc (.cells #[.int .i64 c.fi, .int .i64 c.ga, .int .i64 c.to, .int .i64 c.le, .int .i64 c.la, .int .i64 c.st, .slice A len cap, .slice A' n cap'] 99)).heap.size = w.heap.size + 1 := by simp
          refine Lib.hid ?_
          rw [e, List.length_append, icells_app]; exact hown'
        clear hown' hgrow
        go_wp2
        go_roundw
        case rel => exact OnR.mk (k + 1) (by omega) (by omega) (by go_num) (by rw [HN.out]; exact HO7.out) hb7
        case measure => simp [intOf]; omega
      · have HN := Lib.hid (HSP.out hle2)
        have hdec : decide (hD l ds k ≤ hD l ds f + c.le) = false := decide_eq_false hle2
        clear HYS HSP
        go_wp2
        (refine wp_region_later (by kernel_rfl) (by kernel_rfl) ?_; (repeat (go_big_quiet_step ((go_at_call 61; exact later_call (C1.out _ _ (hB_wr.trans ((‹Later wr›).h.mono hz_wr)) (by assumption)))))); refine wpQuiet_nil ?_)
        intro w4 hb
        have hB4 : Below w.heap.size w w4 := hB_wr.trans (hb.mono hz_wr)
        have hO4 : w4.ownsRow w.heap.size 3 1 (.slice A1 (onI c l ds f k).length cap1) (onI c l ds f n).length (icells (onI c l ds f n)) := by
          rw [HN.out]; exact own_mono (own_later HO.out hb) (by simp)
        have HO4 := Lib.hid hO4
        clear hO4 hb
        go_wp2
        go_ret
        exact ⟨⟨_, rfl, HO4.out⟩, hB4⟩
    · have hkn' : k = n := by omega
      have hkn2 : decide ((k : Int) < n) = false := decide_eq_false (by omega)
      have hO4 : wr.ownsRow w.heap.size 3 1 (.slice A1 (onI c l ds f k).length cap1) (onI c l ds f n).length (icells (onI c l ds f n)) := by
        have h := own_mono HO.out (base' := w.heap.size) (by simp)
        rw [← hkn']; exact h
      have HO4 := Lib.hid hO4
      clear hO4 hkn'
      go_wp2
      (refine wp_region_later (by kernel_rfl) (by kernel_rfl) ?_; (repeat (go_big_quiet_step ((fail)))); refine wpQuiet_nil ?_)
      intro w4 hb
      have hB4 : Below w.heap.size w w4 := hB_wr.trans (hb.mono hz_wr)
      have HO5 := Lib.hid (own_later HO4.out hb)
      clear hb
      go_wp2
      go_ret
      exact ⟨⟨_, rfl, HO5.out⟩, hB4⟩
end Go.Proofs.Ytkphkknlenjjhaa

namespace Go.Proofs.Ytkphkknlenjjhaa
open Go.RowKit
attribute [local go_sem] Later.cell

set_option maxHeartbeats 2000000 in
theorem ends_any (c : Clb) (A : Option Addr) (len cap : Nat) (l : List J) (A' : Option Addr) (n cap' : Nat) (ds : List Int) (k : Nat) (w : World) (hv : vC c = true) (hm : len ≤ 9223372036854775807) (hm' : n ≤ 100000000) (hx : Rows 2 jointV dJ w w.heap.size A len l) (hy : Ints w w.heap.size A' n ds) (hok : WallOk l ds) (hk : k < n) :
    Calls Try.prog 60 #[wallV c A len cap A' n cap', .int .i64 k] w fun e w' => e = .returned (.bool (decide (c.to ≤ hD l ds k + c.le))) ∧ Below w.heap.size w w' := by
  have c1 := fun W (h : Below w.heap.size w W) => height_any c A len cap l A' n cap' ds k W hm (by omega) ((hx.below h).more h.size) ((hy.below h).more h.size) hok hk
  have hle := (vC_spec hv).2.2.2.1
  have hbk := hok.bd k (by rw [hy.1]; exact hk)
  have C1 := Lib.hid c1
  clear c1 hx hy hok hv
  generalize hD l ds k = H at *
  go_enter Try.func60, Try.ntmps60
  go_wp2
  (refine wp_region_later (by kernel_rfl) (by kernel_rfl) ?_; (repeat (go_big_quiet_step ((go_at_call 61; exact later_call (C1.out _ (below_step ((Below.refl _ _).alloc (Nat.le_refl _) _) (‹Later _›).h)))))); refine wpQuiet_nil ?_)
  intro w4 hb
  go_wp2
  go_ret
  exact ⟨rfl, (by repeat (first | exact Below.refl _ _ | assumption | refine Below.setCell ?_ (by first | (simp; done) | (simp; omega) | omega) _ | refine Below.drew ?_ | refine below_drewN ?_ _ | refine Below.alloc ?_ (by first | (simp; done) | (simp; omega) | omega) _ | refine below_alloc ?_ _ | refine below_step ?_ (by assumption)))⟩

set_option maxRecDepth 20000 in
set_option maxHeartbeats 2000000 in
theorem after_any (c : Clb) (A : Option Addr) (len cap : Nat) (l : List J) (A' : Option Addr) (n cap' : Nat) (ds : List Int) (b : Int) (f : Nat) (w : World) (hv : vC c = true) (hm : len ≤ 9223372036854775807) (hm' : n ≤ 100000000) (hx : Rows 2 jointV dJ w w.heap.size A len l) (hy : Ints w w.heap.size A' n ds) (hok : WallOk l ds) (hbn : b < n) (hf : f < n) :
    Calls Try.prog 59 #[wallV c A len cap A' n cap', .int .i64 b, .int .i64 f] w fun e w' => e = .returned (.bool (aftB c l ds b f)) ∧ Below w.heap.size w w' := by
  have c0 := fun W (h : Below w.heap.size w W) => on_any c A len cap l A' n cap' ds f W hv hm hm' ((hx.below h).more h.size) ((hy.below h).more h.size) hok hf
  have c1 := fun k W (h : Below w.heap.size w W) (hk : k < n) => height_any c A len cap l A' n cap' ds k W hm (by omega) ((hx.below h).more h.size) ((hy.below h).more h.size) hok hk
  have hN : onN c l ds f = (onI c l ds f n).length := by unfold onN; rw [hy.1]
  have hNl := onI_len c l ds f n
  have hvs := vC_spec hv
  have hle := hvs.2.2.2.1
  have hla := hvs.2.2.2.2.1
  have hbf := hok.bd f (by rw [hy.1]; exact hf)
  by_cases h2 : 2 ≤ onN c l ds f
  · have h2' : decide (((onI c l ds f n).length : Int) < 2) = false := decide_eq_false (by omega)
    by_cases hneg : b < 0
    · have HE := Lib.hid (aftB_neg (l := l) (ds := ds) h2 hneg)
      have hneg' : decide (b < 0) = true := decide_eq_true hneg
      have c1f := fun W h => c1 f W h hf
      have C0 := Lib.hid c0
      have C1 := Lib.hid c1f
      clear c0 c1 c1f hx hy hok hv hvs h2 hN
      generalize onI c l ds f n = R at *
      generalize hD l ds f = H at *
      go_enter Try.func59, Try.ntmps59
      go_wp2_with fail
      refine (C0.out _ (by repeat (first | exact Below.refl _ _ | assumption | refine Below.setCell ?_ (by first | (simp; done) | (simp; omega) | omega) _ | refine Below.drew ?_ | refine below_drewN ?_ _ | refine Below.alloc ?_ (by first | (simp; done) | (simp; omega) | omega) _ | refine below_alloc ?_ _ | refine below_step ?_ (by assumption)))).mono ?_
      rintro e w1 ⟨⟨v, rfl, ho⟩, hb⟩
      obtain ⟨A1, k1, rfl, hm1, hm2, -⟩ := own_ints ho
      clear ho
      have hB_w1 : Below w.heap.size w w1 := (by repeat (first | exact Below.refl _ _ | assumption | refine Below.setCell ?_ (by first | (simp; done) | (simp; omega) | omega) _ | refine Below.drew ?_ | refine below_drewN ?_ _ | refine Below.alloc ?_ (by first | (simp; done) | (simp; omega) | omega) _ | refine below_alloc ?_ _ | refine below_step ?_ (by assumption))); have hz_w1 := hB_w1.size; have hsw10 : w.heap.size < w1.heap.size := Nat.lt_of_lt_of_le (by first | (simp; done) | (simp; omega) | omega) hb.size; have hnw10 : ¬ w.heap.size = w1.heap.size := (by omega); have hmw10 : ¬ w1.heap.size = w.heap.size := (by omega); have hlw10_0 : w.heap.size ≤ w1.heap.size := (by omega); have hlw10_1 : w.heap.size ≤ w1.heap.size + 1 := (by omega); have hlw10_2 : w.heap.size ≤ w1.heap.size + 1 + 1 := (by omega); have hkw10 : w1.cell? ⟨w.heap.size, 0, none⟩ = some (.int .i64 c.fi) := (by rw [hb.cell (p := ⟨w.heap.size, 0, none⟩) (by first | (simp; done) | (simp; omega) | omega)]; first | (go_simp; done) | assumption); have hkw11 : w1.cell? ⟨w.heap.size, 1, none⟩ = some (.int .i64 c.ga) := (by rw [hb.cell (p := ⟨w.heap.size, 1, none⟩) (by first | (simp; done) | (simp; omega) | omega)]; first | (go_simp; done) | assumption); have hkw12 : w1.cell? ⟨w.heap.size, 2, none⟩ = some (.int .i64 c.to) := (by rw [hb.cell (p := ⟨w.heap.size, 2, none⟩) (by first | (simp; done) | (simp; omega) | omega)]; first | (go_simp; done) | assumption); have hkw13 : w1.cell? ⟨w.heap.size, 3, none⟩ = some (.int .i64 c.le) := (by rw [hb.cell (p := ⟨w.heap.size, 3, none⟩) (by first | (simp; done) | (simp; omega) | omega)]; first | (go_simp; done) | assumption); have hkw14 : w1.cell? ⟨w.heap.size, 4, none⟩ = some (.int .i64 c.la) := (by rw [hb.cell (p := ⟨w.heap.size, 4, none⟩) (by first | (simp; done) | (simp; omega) | omega)]; first | (go_simp; done) | assumption); have hkw15 : w1.cell? ⟨w.heap.size, 5, none⟩ = some (.int .i64 c.st) := (by rw [hb.cell (p := ⟨w.heap.size, 5, none⟩) (by first | (simp; done) | (simp; omega) | omega)]; first | (go_simp; done) | assumption); have hkw16 : w1.cell? ⟨w.heap.size, 6, none⟩ = some (.slice A len cap) := (by rw [hb.cell (p := ⟨w.heap.size, 6, none⟩) (by first | (simp; done) | (simp; omega) | omega)]; first | (go_simp; done) | assumption); have hkw17 : w1.cell? ⟨w.heap.size, 7, none⟩ = some (.slice A' n cap') := (by rw [hb.cell (p := ⟨w.heap.size, 7, none⟩) (by first | (simp; done) | (simp; omega) | omega)]; first | (go_simp; done) | assumption); clear hb
      go_wp2
      (refine wp_region_later (by kernel_rfl) (by kernel_rfl) ?_; (repeat (go_big_quiet_step ((go_at_call 61; exact later_call (C1.out _ (below_step hB_w1 (‹Later _›).h)))))); refine wpQuiet_nil ?_)
      intro w4 hb
      go_wp2
      go_ret
      exact ⟨ret_bool HE.out.symm, (by repeat (first | exact Below.refl _ _ | assumption | refine Below.setCell ?_ (by first | (simp; done) | (simp; omega) | omega) _ | refine Below.drew ?_ | refine below_drewN ?_ _ | refine Below.alloc ?_ (by first | (simp; done) | (simp; omega) | omega) _ | refine below_alloc ?_ _ | refine below_step ?_ (by assumption)))⟩
    · obtain ⟨B, rfl⟩ : ∃ B : Nat, b = (B : Int) := ⟨b.toNat, by omega⟩
      have HE := Lib.hid (aftB_nat (c := c) (l := l) (ds := ds) (b := B) h2)
      have hneg' : decide ((B : Int) < 0) = false := decide_eq_false hneg
      have hbB := hok.bd B (by rw [hy.1]; omega)
      by_cases hBf : B < f
      · have HE2 : Hid (aftB c l ds B f = decide (hD l ds f - hD l ds B ≤ c.le - c.la)) := Lib.hid (by rw [HE.out, decide_eq_true hBf]; rfl)
        have hBf' : decide ((B : Int) < (f : Int)) = true := decide_eq_true (by omega)
        have hBf3 : (B : Int) < (f : Int) := by omega
        have hBf4 : decide (f ≤ B) = false := decide_eq_false (by omega)
        have hBf5 : decide (B < f) = true := decide_eq_true hBf
        have hBn : B < n := by omega
        have C0 := Lib.hid c0
        have C1 := Lib.hid c1
        clear c0 c1 hx hy hok hv hvs h2 hN HE
        generalize onI c l ds f n = R at *
        go_enter Try.func59, Try.ntmps59
        go_wp2_with fail
        refine (C0.out _ (by repeat (first | exact Below.refl _ _ | assumption | refine Below.setCell ?_ (by first | (simp; done) | (simp; omega) | omega) _ | refine Below.drew ?_ | refine below_drewN ?_ _ | refine Below.alloc ?_ (by first | (simp; done) | (simp; omega) | omega) _ | refine below_alloc ?_ _ | refine below_step ?_ (by assumption)))).mono ?_
        rintro e w1 ⟨⟨v, rfl, ho⟩, hb⟩
        obtain ⟨A1, k1, rfl, hm1, hm2, -⟩ := own_ints ho
        clear ho
        have hB_w1 : Below w.heap.size w w1 := (by repeat (first | exact Below.refl _ _ | assumption | refine Below.setCell ?_ (by first | (simp; done) | (simp; omega) | omega) _ | refine Below.drew ?_ | refine below_drewN ?_ _ | refine Below.alloc ?_ (by first | (simp; done) | (simp; omega) | omega) _ | refine below_alloc ?_ _ | refine below_step ?_ (by assumption))); have hz_w1 := hB_w1.size; have hsw10 : w.heap.size < w1.heap.size := Nat.lt_of_lt_of_le (by first | (simp; done) | (simp; omega) | omega) hb.size; have hnw10 : ¬ w.heap.size = w1.heap.size := (by omega); have hmw10 : ¬ w1.heap.size = w.heap.size := (by omega); have hlw10_0 : w.heap.size ≤ w1.heap.size := (by omega); have hlw10_1 : w.heap.size ≤ w1.heap.size + 1 := (by omega); have hlw10_2 : w.heap.size ≤ w1.heap.size + 1 + 1 := (by omega); have hkw10 : w1.cell? ⟨w.heap.size, 0, none⟩ = some (.int .i64 c.fi) := (by rw [hb.cell (p := ⟨w.heap.size, 0, none⟩) (by first | (simp; done) | (simp; omega) | omega)]; first | (go_simp; done) | assumption); have hkw11 : w1.cell? ⟨w.heap.size, 1, none⟩ = some (.int .i64 c.ga) := (by rw [hb.cell (p := ⟨w.heap.size, 1, none⟩) (by first | (simp; done) | (simp; omega) | omega)]; first | (go_simp; done) | assumption); have hkw12 : w1.cell? ⟨w.heap.size, 2, none⟩ = some (.int .i64 c.to) := (by rw [hb.cell (p := ⟨w.heap.size, 2, none⟩) (by first | (simp; done) | (simp; omega) | omega)]; first | (go_simp; done) | assumption); have hkw13 : w1.cell? ⟨w.heap.size, 3, none⟩ = some (.int .i64 c.le) := (by rw [hb.cell (p := ⟨w.heap.size, 3, none⟩) (by first | (simp; done) | (simp; omega) | omega)]; first | (go_simp; done) | assumption); have hkw14 : w1.cell? ⟨w.heap.size, 4, none⟩ = some (.int .i64 c.la) := (by rw [hb.cell (p := ⟨w.heap.size, 4, none⟩) (by first | (simp; done) | (simp; omega) | omega)]; first | (go_simp; done) | assumption); have hkw15 : w1.cell? ⟨w.heap.size, 5, none⟩ = some (.int .i64 c.st) := (by rw [hb.cell (p := ⟨w.heap.size, 5, none⟩) (by first | (simp; done) | (simp; omega) | omega)]; first | (go_simp; done) | assumption); have hkw16 : w1.cell? ⟨w.heap.size, 6, none⟩ = some (.slice A len cap) := (by rw [hb.cell (p := ⟨w.heap.size, 6, none⟩) (by first | (simp; done) | (simp; omega) | omega)]; first | (go_simp; done) | assumption); have hkw17 : w1.cell? ⟨w.heap.size, 7, none⟩ = some (.slice A' n cap') := (by rw [hb.cell (p := ⟨w.heap.size, 7, none⟩) (by first | (simp; done) | (simp; omega) | omega)]; first | (go_simp; done) | assumption); clear hb
        go_wp2
        (refine wp_region_later (by kernel_rfl) (by kernel_rfl) ?_; (repeat (go_big_quiet_step ((go_at_call 61; exact later_call (C1.out _ _ (below_step hB_w1 (‹Later _›).h) (by assumption)))))); refine wpQuiet_nil ?_)
        intro w4 hb
        go_wp2
        go_ret
        exact ⟨ret_bool HE2.out.symm, (by repeat (first | exact Below.refl _ _ | assumption | refine Below.setCell ?_ (by first | (simp; done) | (simp; omega) | omega) _ | refine Below.drew ?_ | refine below_drewN ?_ _ | refine Below.alloc ?_ (by first | (simp; done) | (simp; omega) | omega) _ | refine below_alloc ?_ _ | refine below_step ?_ (by assumption)))⟩
      · have HE2 : Hid (aftB c l ds B f = false) := Lib.hid (by rw [HE.out, decide_eq_false hBf]; rfl)
        have hBf' : decide ((B : Int) < (f : Int)) = false := decide_eq_false (by omega)
        have hBf2 : decide (B < f) = false := decide_eq_false hBf
        have hBf4 : decide (f ≤ B) = true := decide_eq_true (by omega)
        have C0 := Lib.hid c0
        clear c0 c1 hx hy hok hv hvs h2 hN HE
        generalize onI c l ds f n = R at *
        go_enter Try.func59, Try.ntmps59
        go_wp2_with fail
        refine (C0.out _ (by repeat (first | exact Below.refl _ _ | assumption | refine Below.setCell ?_ (by first | (simp; done) | (simp; omega) | omega) _ | refine Below.drew ?_ | refine below_drewN ?_ _ | refine Below.alloc ?_ (by first | (simp; done) | (simp; omega) | omega) _ | refine below_alloc ?_ _ | refine below_step ?_ (by assumption)))).mono ?_
        rintro e w1 ⟨⟨v, rfl, ho⟩, hb⟩
        obtain ⟨A1, k1, rfl, hm1, hm2, -⟩ := own_ints ho
        clear ho
        have hB_w1 : Below w.heap.size w w1 := (by repeat (first | exact Below.refl _ _ | assumption | refine Below.setCell ?_ (by first | (simp; done) | (simp; omega) | omega) _ | refine Below.drew ?_ | refine below_drewN ?_ _ | refine Below.alloc ?_ (by first | (simp; done) | (simp; omega) | omega) _ | refine below_alloc ?_ _ | refine below_step ?_ (by assumption))); have hz_w1 := hB_w1.size; have hsw10 : w.heap.size < w1.heap.size := Nat.lt_of_lt_of_le (by first | (simp; done) | (simp; omega) | omega) hb.size; have hnw10 : ¬ w.heap.size = w1.heap.size := (by omega); have hmw10 : ¬ w1.heap.size = w.heap.size := (by omega); have hlw10_0 : w.heap.size ≤ w1.heap.size := (by omega); have hlw10_1 : w.heap.size ≤ w1.heap.size + 1 := (by omega); have hlw10_2 : w.heap.size ≤ w1.heap.size + 1 + 1 := (by omega); have hkw10 : w1.cell? ⟨w.heap.size, 0, none⟩ = some (.int .i64 c.fi) := (by rw [hb.cell (p := ⟨w.heap.size, 0, none⟩) (by first | (simp; done) | (simp; omega) | omega)]; first | (go_simp; done) | assumption); have hkw11 : w1.cell? ⟨w.heap.size, 1, none⟩ = some (.int .i64 c.ga) := (by rw [hb.cell (p := ⟨w.heap.size, 1, none⟩) (by first | (simp; done) | (simp; omega) | omega)]; first | (go_simp; done) | assumption); have hkw12 : w1.cell? ⟨w.heap.size, 2, none⟩ = some (.int .i64 c.to) := (by rw [hb.cell (p := ⟨w.heap.size, 2, none⟩) (by first | (simp; done) | (simp; omega) | omega)]; first | (go_simp; done) | assumption); have hkw13 : w1.cell? ⟨w.heap.size, 3, none⟩ = some (.int .i64 c.le) := (by rw [hb.cell (p := ⟨w.heap.size, 3, none⟩) (by first | (simp; done) | (simp; omega) | omega)]; first | (go_simp; done) | assumption); have hkw14 : w1.cell? ⟨w.heap.size, 4, none⟩ = some (.int .i64 c.la) := (by rw [hb.cell (p := ⟨w.heap.size, 4, none⟩) (by first | (simp; done) | (simp; omega) | omega)]; first | (go_simp; done) | assumption); have hkw15 : w1.cell? ⟨w.heap.size, 5, none⟩ = some (.int .i64 c.st) := (by rw [hb.cell (p := ⟨w.heap.size, 5, none⟩) (by first | (simp; done) | (simp; omega) | omega)]; first | (go_simp; done) | assumption); have hkw16 : w1.cell? ⟨w.heap.size, 6, none⟩ = some (.slice A len cap) := (by rw [hb.cell (p := ⟨w.heap.size, 6, none⟩) (by first | (simp; done) | (simp; omega) | omega)]; first | (go_simp; done) | assumption); have hkw17 : w1.cell? ⟨w.heap.size, 7, none⟩ = some (.slice A' n cap') := (by rw [hb.cell (p := ⟨w.heap.size, 7, none⟩) (by first | (simp; done) | (simp; omega) | omega)]; first | (go_simp; done) | assumption); clear hb
        go_wp2
        (refine wp_region_later (by kernel_rfl) (by kernel_rfl) ?_; (repeat (go_big_quiet_step ((fail)))); refine wpQuiet_nil ?_)
        intro w4 hb
        go_wp2
        go_ret
        exact ⟨ret_bool HE2.out.symm, (by repeat (first | exact Below.refl _ _ | assumption | refine Below.setCell ?_ (by first | (simp; done) | (simp; omega) | omega) _ | refine Below.drew ?_ | refine below_drewN ?_ _ | refine Below.alloc ?_ (by first | (simp; done) | (simp; omega) | omega) _ | refine below_alloc ?_ _ | refine below_step ?_ (by assumption)))⟩
  · have HE := Lib.hid (aftB_few (l := l) (ds := ds) (b := b) h2)
    have h2' : decide (((onI c l ds f n).length : Int) < 2) = true := decide_eq_true (by omega)
    have C0 := Lib.hid c0
    clear c0 c1 hx hy hok hv hvs h2 hN
    generalize onI c l ds f n = R at *
    go_enter Try.func59, Try.ntmps59
    go_wp2_with fail
    refine (C0.out _ (by repeat (first | exact Below.refl _ _ | assumption | refine Below.setCell ?_ (by first | (simp; done) | (simp; omega) | omega) _ | refine Below.drew ?_ | refine below_drewN ?_ _ | refine Below.alloc ?_ (by first | (simp; done) | (simp; omega) | omega) _ | refine below_alloc ?_ _ | refine below_step ?_ (by assumption)))).mono ?_
    rintro e w1 ⟨⟨v, rfl, ho⟩, hb⟩
    obtain ⟨A1, k1, rfl, hm1, hm2, -⟩ := own_ints ho
    clear ho
    have hB_w1 : Below w.heap.size w w1 := (by repeat (first | exact Below.refl _ _ | assumption | refine Below.setCell ?_ (by first | (simp; done) | (simp; omega) | omega) _ | refine Below.drew ?_ | refine below_drewN ?_ _ | refine Below.alloc ?_ (by first | (simp; done) | (simp; omega) | omega) _ | refine below_alloc ?_ _ | refine below_step ?_ (by assumption))); have hz_w1 := hB_w1.size; clear hb
    go_wp2
    go_ret
    exact ⟨ret_bool HE.out.symm, (by repeat (first | exact Below.refl _ _ | assumption | refine Below.setCell ?_ (by first | (simp; done) | (simp; omega) | omega) _ | refine Below.drew ?_ | refine below_drewN ?_ _ | refine Below.alloc ?_ (by first | (simp; done) | (simp; omega) | omega) _ | refine below_alloc ?_ _ | refine below_step ?_ (by assumption)))⟩
end Go.Proofs.Ytkphkknlenjjhaa

namespace Go.Proofs.Ytkphkknlenjjhaa
open Go.RowKit
attribute [local go_sem] Later.cell

set_option maxRecDepth 20000 in
set_option maxHeartbeats 4000000 in
theorem Set_any (c : Clb) (A : Option Addr) (len cap : Nat) (l : List J) (A' : Option Addr) (n cap' : Nat) (ds : List Int) (A2 : Option Addr) (m cap2 : Nat) (ls : List Int) (w : World) (hm : len ≤ 9223372036854775807) (hm' : n ≤ 100000000) (hm2 : m ≤ 100000000) (hx : Rows 2 jointV dJ w w.heap.size A len l) (hy : Ints w w.heap.size A' n ds) (hz : Ints w w.heap.size A2 m ls) :
    Calls Try.prog 44 #[climbV c, .slice A len cap, .slice A' n cap', .slice A2 m cap2] w fun e w' => e = .returned (.bool (setB c l ds ls)) ∧ Below w.heap.size w w' := by
  have hR : setB c l ds ls = (rightB c l ds && (!ls.isEmpty && (ascB ds.length ls && set1 c l ds ls))) := rfl
  have c1 := fun W (h : Below w.heap.size w W) => Right_any c A len cap l A' n cap' ds W hm (by omega) ((hx.below h).more h.size) ((hy.below h).more h.size)
  have c2 := fun W (h : Below w.heap.size w W) => asc_any A2 m cap2 ls n W (by omega) (by omega) ((hz.below h).more h.size)
  rw [hy.1] at hR
  cases hr : rightB c l ds
  · rw [hr] at hR c1
    rw [Bool.false_and] at hR
    rw [hR]
    have C1 := Lib.hid c1
    clear c1 c2 hx hy hz hr hR
    go_enter Try.func44, Try.ntmps44
    go_wp2_with fail
    refine (C1.out _ (by repeat (first | exact Below.refl _ _ | assumption | refine Below.setCell ?_ (by first | (simp; done) | (simp; omega) | omega) _ | refine Below.drew ?_ | refine below_drewN ?_ _ | refine Below.alloc ?_ (by first | (simp; done) | (simp; omega) | omega) _ | refine below_alloc ?_ _ | refine below_step ?_ (by assumption)))).mono ?_
    rintro e w1 ⟨rfl, hb⟩
    have hB_w1 : Below w.heap.size w w1 := (by repeat (first | exact Below.refl _ _ | assumption | refine Below.setCell ?_ (by first | (simp; done) | (simp; omega) | omega) _ | refine Below.drew ?_ | refine below_drewN ?_ _ | refine Below.alloc ?_ (by first | (simp; done) | (simp; omega) | omega) _ | refine below_alloc ?_ _ | refine below_step ?_ (by assumption))); have hz_w1 := hB_w1.size; clear hb
    go_wp2
    go_ret
    exact ⟨rfl, (by repeat (first | exact Below.refl _ _ | assumption | refine Below.setCell ?_ (by first | (simp; done) | (simp; omega) | omega) _ | refine Below.drew ?_ | refine below_drewN ?_ _ | refine Below.alloc ?_ (by first | (simp; done) | (simp; omega) | omega) _ | refine below_alloc ?_ _ | refine below_step ?_ (by assumption)))⟩
  · have hwk := wall_ok hr
    have hvv := Bool.and_eq_true .. ▸ right_valid hr
    obtain ⟨hvc, hvj⟩ := hvv
    rw [hr] at hR c1
    rw [Bool.true_and] at hR
    by_cases hm0 : m = 0
    · have hnil : ls = [] := List.eq_nil_of_length_eq_zero (by rw [hz.1]; exact hm0)
      rw [hnil] at hR ⊢
      rw [hR]
      subst hm0
      have C1 := Lib.hid c1
      clear c1 c2 hx hy hz hr hR hwk hvc hvj
      go_enter Try.func44, Try.ntmps44
      go_wp2_with fail
      refine (C1.out _ (by repeat (first | exact Below.refl _ _ | assumption | refine Below.setCell ?_ (by first | (simp; done) | (simp; omega) | omega) _ | refine Below.drew ?_ | refine below_drewN ?_ _ | refine Below.alloc ?_ (by first | (simp; done) | (simp; omega) | omega) _ | refine below_alloc ?_ _ | refine below_step ?_ (by assumption)))).mono ?_
      rintro e w1 ⟨rfl, hb⟩
      have hB_w1 : Below w.heap.size w w1 := (by repeat (first | exact Below.refl _ _ | assumption | refine Below.setCell ?_ (by first | (simp; done) | (simp; omega) | omega) _ | refine Below.drew ?_ | refine below_drewN ?_ _ | refine Below.alloc ?_ (by first | (simp; done) | (simp; omega) | omega) _ | refine below_alloc ?_ _ | refine below_step ?_ (by assumption))); have hz_w1 := hB_w1.size; clear hb
      go_wp2
      go_ret
      exact ⟨rfl, (by repeat (first | exact Below.refl _ _ | assumption | refine Below.setCell ?_ (by first | (simp; done) | (simp; omega) | omega) _ | refine Below.drew ?_ | refine below_drewN ?_ _ | refine Below.alloc ?_ (by first | (simp; done) | (simp; omega) | omega) _ | refine below_alloc ?_ _ | refine below_step ?_ (by assumption)))⟩
    · have hne : ls.isEmpty = false := by
        cases ls with
        | nil => exact absurd hz.1.symm hm0
        | cons _ _ => rfl
      have hm00 : ((m : Int) == 0) = false := by simpa using hm0
      rw [hne, Bool.not_false, Bool.true_and] at hR
      cases ha : ascB n ls
      · rw [ha] at hR c2
        rw [Bool.false_and] at hR
        rw [hR]
        have C1 := Lib.hid c1
        have C2 := Lib.hid c2
        clear c1 c2 hx hy hz hr hR hne ha hm0 hwk hvc hvj
        go_enter Try.func44, Try.ntmps44
        go_wp2_with fail
        refine (C1.out _ (by repeat (first | exact Below.refl _ _ | assumption | refine Below.setCell ?_ (by first | (simp; done) | (simp; omega) | omega) _ | refine Below.drew ?_ | refine below_drewN ?_ _ | refine Below.alloc ?_ (by first | (simp; done) | (simp; omega) | omega) _ | refine below_alloc ?_ _ | refine below_step ?_ (by assumption)))).mono ?_
        rintro e w1 ⟨rfl, hb⟩
        have hB_w1 : Below w.heap.size w w1 := (by repeat (first | exact Below.refl _ _ | assumption | refine Below.setCell ?_ (by first | (simp; done) | (simp; omega) | omega) _ | refine Below.drew ?_ | refine below_drewN ?_ _ | refine Below.alloc ?_ (by first | (simp; done) | (simp; omega) | omega) _ | refine below_alloc ?_ _ | refine below_step ?_ (by assumption))); have hz_w1 := hB_w1.size; clear hb
        go_wp2_with fail
        refine (C2.out _ (by repeat (first | exact Below.refl _ _ | assumption | refine Below.setCell ?_ (by first | (simp; done) | (simp; omega) | omega) _ | refine Below.drew ?_ | refine below_drewN ?_ _ | refine Below.alloc ?_ (by first | (simp; done) | (simp; omega) | omega) _ | refine below_alloc ?_ _ | refine below_step ?_ (by assumption)))).mono ?_
        rintro e w2 ⟨rfl, hb⟩
        have hB_w2 : Below w.heap.size w w2 := (by repeat (first | exact Below.refl _ _ | assumption | refine Below.setCell ?_ (by first | (simp; done) | (simp; omega) | omega) _ | refine Below.drew ?_ | refine below_drewN ?_ _ | refine Below.alloc ?_ (by first | (simp; done) | (simp; omega) | omega) _ | refine below_alloc ?_ _ | refine below_step ?_ (by assumption))); have hz_w2 := hB_w2.size; clear hb
        go_wp2
        go_ret
        exact ⟨rfl, (by repeat (first | exact Below.refl _ _ | assumption | refine Below.setCell ?_ (by first | (simp; done) | (simp; omega) | omega) _ | refine Below.drew ?_ | refine below_drewN ?_ _ | refine Below.alloc ?_ (by first | (simp; done) | (simp; omega) | omega) _ | refine below_alloc ?_ _ | refine below_step ?_ (by assumption)))⟩
      · rw [ha] at hR c2
        rw [Bool.true_and] at hR
        have has := ascB_spec ha
        rw [hz.1] at has
        have c3 := fun b f W (h : Below w.heap.size w W) (hb : b < (n : Int)) (hf : f < n) => after_any c A len cap l A' n cap' ds b f W hvc hm hm' ((hx.below h).more h.size) ((hy.below h).more h.size) hwk hb hf
        have c4 := fun k W (h : Below w.heap.size w W) (hk : k < n) => ends_any c A len cap l A' n cap' ds k W hvc hm hm' ((hx.below h).more h.size) ((hy.below h).more h.size) hwk hk
        have hstep : ∀ k D, k < m → num ls k = ((D : Nat) : Int) → setX c l ds ls k = aftB c l ds (before ls k) D := fun k D hk hD => setX_aft hD (fun h0 => ⟨(has.1 (k - 1) (by omega)).1, has.2 (k - 1) k (by omega) hk⟩)
        have hlast : set1 c l ds ls = ((List.range ls.length).all (setX c l ds ls) && decide (c.to ≤ hL l ds (num ls (m - 1)) + c.le)) := by rw [← hz.1]; rfl
        rw [hz.1] at hlast
        have hmp : 0 < m := by omega
        have HR := Lib.hid hR
        have HL := Lib.hid hlast
        have C1 := Lib.hid c1
        have C2 := Lib.hid c2
        have C3 := Lib.hid c3
        have C4 := Lib.hid c4
        have HZ := Lib.hid hz
        have HS := Lib.hid hstep
        have HAS := Lib.hid has
        clear c1 c2 c3 c4 hx hy hz hR hne ha hm0 has hstep hlast hvc hvj hwk hr
        go_enter Try.func44, Try.ntmps44
        go_wp2_with fail
        refine (C1.out _ (by repeat (first | exact Below.refl _ _ | assumption | refine Below.setCell ?_ (by first | (simp; done) | (simp; omega) | omega) _ | refine Below.drew ?_ | refine below_drewN ?_ _ | refine Below.alloc ?_ (by first | (simp; done) | (simp; omega) | omega) _ | refine below_alloc ?_ _ | refine below_step ?_ (by assumption)))).mono ?_
        rintro e w1 ⟨rfl, hb⟩
        have hB_w1 : Below w.heap.size w w1 := (by repeat (first | exact Below.refl _ _ | assumption | refine Below.setCell ?_ (by first | (simp; done) | (simp; omega) | omega) _ | refine Below.drew ?_ | refine below_drewN ?_ _ | refine Below.alloc ?_ (by first | (simp; done) | (simp; omega) | omega) _ | refine below_alloc ?_ _ | refine below_step ?_ (by assumption))); have hz_w1 := hB_w1.size; have hsw10 : w.heap.size < w1.heap.size := Nat.lt_of_lt_of_le (by first | (simp; done) | (simp; omega) | omega) hb.size; have hnw10 : ¬ w.heap.size = w1.heap.size := (by omega); have hmw10 : ¬ w1.heap.size = w.heap.size := (by omega); have hlw10_0 : w.heap.size ≤ w1.heap.size := (by omega); have hlw10_1 : w.heap.size ≤ w1.heap.size + 1 := (by omega); have hlw10_2 : w.heap.size ≤ w1.heap.size + 1 + 1 := (by omega); have hkw10 : w1.cell? ⟨w.heap.size, 0, none⟩ = some (.int .i64 c.fi) := (by rw [hb.cell (p := ⟨w.heap.size, 0, none⟩) (by first | (simp; done) | (simp; omega) | omega)]; first | (go_simp; done) | assumption); have hkw11 : w1.cell? ⟨w.heap.size, 1, none⟩ = some (.int .i64 c.ga) := (by rw [hb.cell (p := ⟨w.heap.size, 1, none⟩) (by first | (simp; done) | (simp; omega) | omega)]; first | (go_simp; done) | assumption); have hkw12 : w1.cell? ⟨w.heap.size, 2, none⟩ = some (.int .i64 c.to) := (by rw [hb.cell (p := ⟨w.heap.size, 2, none⟩) (by first | (simp; done) | (simp; omega) | omega)]; first | (go_simp; done) | assumption); have hkw13 : w1.cell? ⟨w.heap.size, 3, none⟩ = some (.int .i64 c.le) := (by rw [hb.cell (p := ⟨w.heap.size, 3, none⟩) (by first | (simp; done) | (simp; omega) | omega)]; first | (go_simp; done) | assumption); have hkw14 : w1.cell? ⟨w.heap.size, 4, none⟩ = some (.int .i64 c.la) := (by rw [hb.cell (p := ⟨w.heap.size, 4, none⟩) (by first | (simp; done) | (simp; omega) | omega)]; first | (go_simp; done) | assumption); have hkw15 : w1.cell? ⟨w.heap.size, 5, none⟩ = some (.int .i64 c.st) := (by rw [hb.cell (p := ⟨w.heap.size, 5, none⟩) (by first | (simp; done) | (simp; omega) | omega)]; first | (go_simp; done) | assumption); clear hb
        go_wp2_with fail
        refine (C2.out _ (by repeat (first | exact Below.refl _ _ | assumption | refine Below.setCell ?_ (by first | (simp; done) | (simp; omega) | omega) _ | refine Below.drew ?_ | refine below_drewN ?_ _ | refine Below.alloc ?_ (by first | (simp; done) | (simp; omega) | omega) _ | refine below_alloc ?_ _ | refine below_step ?_ (by assumption)))).mono ?_
        rintro e w2 ⟨rfl, hb⟩
        have hB_w2 : Below w.heap.size w w2 := (by repeat (first | exact Below.refl _ _ | assumption | refine Below.setCell ?_ (by first | (simp; done) | (simp; omega) | omega) _ | refine Below.drew ?_ | refine below_drewN ?_ _ | refine Below.alloc ?_ (by first | (simp; done) | (simp; omega) | omega) _ | refine below_alloc ?_ _ | refine below_step ?_ (by assumption))); have hz_w2 := hB_w2.size; have hsw20 : w.heap.size < w2.heap.size := Nat.lt_of_lt_of_le (by first | (simp; done) | (simp; omega) | omega) hb.size; have hnw20 : ¬ w.heap.size = w2.heap.size := (by omega); have hmw20 : ¬ w2.heap.size = w.heap.size := (by omega); have hlw20_0 : w.heap.size ≤ w2.heap.size := (by omega); have hlw20_1 : w.heap.size ≤ w2.heap.size + 1 := (by omega); have hlw20_2 : w.heap.size ≤ w2.heap.size + 1 + 1 := (by omega); have hkw20 : w2.cell? ⟨w.heap.size, 0, none⟩ = some (.int .i64 c.fi) := (by rw [hb.cell (p := ⟨w.heap.size, 0, none⟩) (by first | (simp; done) | (simp; omega) | omega)]; first | (go_simp; done) | assumption); have hkw21 : w2.cell? ⟨w.heap.size, 1, none⟩ = some (.int .i64 c.ga) := (by rw [hb.cell (p := ⟨w.heap.size, 1, none⟩) (by first | (simp; done) | (simp; omega) | omega)]; first | (go_simp; done) | assumption); have hkw22 : w2.cell? ⟨w.heap.size, 2, none⟩ = some (.int .i64 c.to) := (by rw [hb.cell (p := ⟨w.heap.size, 2, none⟩) (by first | (simp; done) | (simp; omega) | omega)]; first | (go_simp; done) | assumption); have hkw23 : w2.cell? ⟨w.heap.size, 3, none⟩ = some (.int .i64 c.le) := (by rw [hb.cell (p := ⟨w.heap.size, 3, none⟩) (by first | (simp; done) | (simp; omega) | omega)]; first | (go_simp; done) | assumption); have hkw24 : w2.cell? ⟨w.heap.size, 4, none⟩ = some (.int .i64 c.la) := (by rw [hb.cell (p := ⟨w.heap.size, 4, none⟩) (by first | (simp; done) | (simp; omega) | omega)]; first | (go_simp; done) | assumption); have hkw25 : w2.cell? ⟨w.heap.size, 5, none⟩ = some (.int .i64 c.st) := (by rw [hb.cell (p := ⟨w.heap.size, 5, none⟩) (by first | (simp; done) | (simp; omega) | omega)]; first | (go_simp; done) | assumption); clear hb hB_w1 hlw10_0 hlw10_1 hlw10_2 hkw10 hkw11 hkw12 hkw13 hkw14 hkw15
        go_wp2
        go_loopw [36, 10] (fun i x wr => ∃ k : Nat, k ≤ m ∧ i = .int .i64 k ∧ x = .int .i64 (before ls k) ∧ Hid ((List.range k).all (setX c l ds ls) = true) ∧ Below (w2.alloc (.cells #[.int .i64 c.fi, .int .i64 c.ga, .int .i64 c.to, .int .i64 c.le, .int .i64 c.la, .int .i64 c.st, .slice A len cap, .slice A' n cap'] 99)).heap.size (w2.alloc (.cells #[.int .i64 c.fi, .int .i64 c.ga, .int .i64 c.to, .int .i64 c.le, .int .i64 c.la, .int .i64 c.st, .slice A len cap, .slice A' n cap'] 99)) wr) (fun i _ _ => m - (intOf i).toNat)
        case atStart => exact ⟨0, Nat.zero_le _, rfl, rfl, Lib.hid rfl, Below.refl _ _⟩
        case round =>
          obtain ⟨k, hk, rfl, rfl, hT, hb⟩ := hrel
          have hb' := hb
          have hB0 : Below w.heap.size w wr := (hB_w2.alloc hz_w2 _).trans (hb.mono (by simp; omega))
          have hB_wr : Below w.heap.size w wr := (by repeat (first | exact Below.refl _ _ | assumption | refine Below.setCell ?_ (by first | (simp; done) | (simp; omega) | omega) _ | refine Below.drew ?_ | refine below_drewN ?_ _ | refine Below.alloc ?_ (by first | (simp; done) | (simp; omega) | omega) _ | refine below_alloc ?_ _ | refine below_step ?_ (by assumption))); have hz_wr := hB_wr.size; have hswr0 : w2.heap.size < wr.heap.size := Nat.lt_of_lt_of_le (by first | (simp; done) | (simp; omega) | omega) hb.size; have hnwr0 : ¬ w2.heap.size = wr.heap.size := (by omega); have hmwr0 : ¬ wr.heap.size = w2.heap.size := (by omega); have hlwr0_0 : w2.heap.size ≤ wr.heap.size := (by omega); have hlwr0_1 : w2.heap.size ≤ wr.heap.size + 1 := (by omega); have hlwr0_2 : w2.heap.size ≤ wr.heap.size + 1 + 1 := (by omega); have hkwr0 : wr.cell? ⟨w2.heap.size, 0, none⟩ = some (.int .i64 c.fi) := (by rw [hb.cell (p := ⟨w2.heap.size, 0, none⟩) (by first | (simp; done) | (simp; omega) | omega)]; first | (go_simp; done) | assumption); have hkwr1 : wr.cell? ⟨w2.heap.size, 1, none⟩ = some (.int .i64 c.ga) := (by rw [hb.cell (p := ⟨w2.heap.size, 1, none⟩) (by first | (simp; done) | (simp; omega) | omega)]; first | (go_simp; done) | assumption); have hkwr2 : wr.cell? ⟨w2.heap.size, 2, none⟩ = some (.int .i64 c.to) := (by rw [hb.cell (p := ⟨w2.heap.size, 2, none⟩) (by first | (simp; done) | (simp; omega) | omega)]; first | (go_simp; done) | assumption); have hkwr3 : wr.cell? ⟨w2.heap.size, 3, none⟩ = some (.int .i64 c.le) := (by rw [hb.cell (p := ⟨w2.heap.size, 3, none⟩) (by first | (simp; done) | (simp; omega) | omega)]; first | (go_simp; done) | assumption); have hkwr4 : wr.cell? ⟨w2.heap.size, 4, none⟩ = some (.int .i64 c.la) := (by rw [hb.cell (p := ⟨w2.heap.size, 4, none⟩) (by first | (simp; done) | (simp; omega) | omega)]; first | (go_simp; done) | assumption); have hkwr5 : wr.cell? ⟨w2.heap.size, 5, none⟩ = some (.int .i64 c.st) := (by rw [hb.cell (p := ⟨w2.heap.size, 5, none⟩) (by first | (simp; done) | (simp; omega) | omega)]; first | (go_simp; done) | assumption); have hkwr6 : wr.cell? ⟨w2.heap.size, 6, none⟩ = some (.slice A len cap) := (by rw [hb.cell (p := ⟨w2.heap.size, 6, none⟩) (by first | (simp; done) | (simp; omega) | omega)]; first | (go_simp; done) | assumption); have hkwr7 : wr.cell? ⟨w2.heap.size, 7, none⟩ = some (.slice A' n cap') := (by rw [hb.cell (p := ⟨w2.heap.size, 7, none⟩) (by first | (simp; done) | (simp; omega) | omega)]; first | (go_simp; done) | assumption); clear hb hB_w2 hlw20_0 hlw20_1 hlw20_2 hkw20 hkw21 hkw22 hkw23 hkw24 hkw25
          by_cases hlt : k < m
          · obtain ⟨b, off, rfl, hb0, hc1⟩ := (HZ.out.below hB0).at_ k hlt
            have hdk := HAS.out.1 k hlt
            obtain ⟨D, hD⟩ : ∃ D : Nat, num ls k = (D : Int) := ⟨_, (Int.toNat_of_nonneg hdk.1).symm⟩
            have hDl : D < n := by omega
            change wr.cell? ⟨b, off + k, none⟩ = some (.int .i64 (num ls k)) at hc1
            rw [hD] at hc1
            have hst := HS.out k D hlt hD
            have hbf : before ls k < n := by
              unfold before
              split
              · omega
              · exact (HAS.out.1 (k - 1) (by omega)).2
            have c5 := fun W (h : Below w.heap.size w W) => C3.out (before ls k) D W h hbf hDl
            have hnx : before ls (k + 1) = (D : Int) := by unfold before; rw [if_neg (by omega), Nat.add_sub_cancel]; exact hD
            have HNX := Lib.hid hnx
            have HA := Lib.hid (fun hp => range_yes (p := setX c l ds ls) hT.out hp)
            have HF := Lib.hid (fun hp => range_no (p := setX c l ds ls) (show k < ls.length by rw [HZ.out.1]; exact hlt) hp)
            generalize before ls k = bf at *
            generalize aftB c l ds bf D = F at *
            have hb1 : b < wr.heap.size := by omega
            have C5 := Lib.hid c5
            clear c5 hnx hD hdk hT
            cases F
            · have h4 := Lib.hid (HF.out hst)
              clear hst
              go_wp2_with fail
              refine (C5.out _ (by repeat (first | exact Below.refl _ _ | assumption | refine Below.setCell ?_ (by first | (simp; done) | (simp; omega) | omega) _ | refine Below.drew ?_ | refine below_drewN ?_ _ | refine Below.alloc ?_ (by first | (simp; done) | (simp; omega) | omega) _ | refine below_alloc ?_ _ | refine below_step ?_ (by assumption)))).mono ?_
              rintro e w4 ⟨rfl, hb⟩
              have hB_w4 : Below w.heap.size w w4 := (by repeat (first | exact Below.refl _ _ | assumption | refine Below.setCell ?_ (by first | (simp; done) | (simp; omega) | omega) _ | refine Below.drew ?_ | refine below_drewN ?_ _ | refine Below.alloc ?_ (by first | (simp; done) | (simp; omega) | omega) _ | refine below_alloc ?_ _ | refine below_step ?_ (by assumption))); have hz_w4 := hB_w4.size; clear hb
              go_wp2
              go_ret
              exact ⟨ret_bool (by rw [HR.out, HL.out, ← HZ.out.1, h4.out]; rfl), (by repeat (first | exact Below.refl _ _ | assumption | refine Below.setCell ?_ (by first | (simp; done) | (simp; omega) | omega) _ | refine Below.drew ?_ | refine below_drewN ?_ _ | refine Below.alloc ?_ (by first | (simp; done) | (simp; omega) | omega) _ | refine below_alloc ?_ _ | refine below_step ?_ (by assumption)))⟩
            · have h4 := Lib.hid (HA.out hst)
              clear hst
              go_wp2_with fail
              refine (C5.out _ (by repeat (first | exact Below.refl _ _ | assumption | refine Below.setCell ?_ (by first | (simp; done) | (simp; omega) | omega) _ | refine Below.drew ?_ | refine below_drewN ?_ _ | refine Below.alloc ?_ (by first | (simp; done) | (simp; omega) | omega) _ | refine below_alloc ?_ _ | refine below_step ?_ (by assumption)))).mono ?_
              rintro e w4 ⟨rfl, hb⟩
              have hbq := hb
              have hB_w4 : Below w.heap.size w w4 := (by repeat (first | exact Below.refl _ _ | assumption | refine Below.setCell ?_ (by first | (simp; done) | (simp; omega) | omega) _ | refine Below.drew ?_ | refine below_drewN ?_ _ | refine Below.alloc ?_ (by first | (simp; done) | (simp; omega) | omega) _ | refine below_alloc ?_ _ | refine below_step ?_ (by assumption))); have hz_w4 := hB_w4.size; clear hb
              have hb5 := hb'.trans (hbq.mono hb'.size)
              clear hbq
              go_wp2
              go_roundw
              case rel => exact ⟨k + 1, by omega, by go_num, by rw [HNX.out], h4, hb5⟩
              case measure => simp [intOf]; omega
          · have hkm : k = m := by omega
            have hdk := HAS.out.1 (m - 1) (by omega)
            obtain ⟨D, hDe⟩ : ∃ D : Nat, num ls (m - 1) = (D : Int) := ⟨_, (Int.toNat_of_nonneg hdk.1).symm⟩
            have hDl : D < n := by omega
            have c6 := fun W (h : Below w.heap.size w W) => C4.out D W h hDl
            have hbf : before ls k = (D : Int) := by unfold before; rw [if_neg (by omega), hkm]; exact hDe
            have hfin : Hid (setB c l ds ls = decide (c.to ≤ hD l ds D + c.le)) := Lib.hid (by
              have h5 := hT.out
              rw [hkm] at h5
              have h6 := HL.out
              rw [h5, Bool.true_and, hDe] at h6
              rw [HR.out, h6]; rfl)
            generalize hD l ds D = H at *
            rw [hbf]
            have C6 := Lib.hid c6
            clear c6 hDe hdk hT hkm hbf
            go_wp2_with fail
            refine (C6.out _ (by repeat (first | exact Below.refl _ _ | assumption | refine Below.setCell ?_ (by first | (simp; done) | (simp; omega) | omega) _ | refine Below.drew ?_ | refine below_drewN ?_ _ | refine Below.alloc ?_ (by first | (simp; done) | (simp; omega) | omega) _ | refine below_alloc ?_ _ | refine below_step ?_ (by assumption)))).mono ?_
            rintro e w4 ⟨rfl, hb⟩
            have hB_w4 : Below w.heap.size w w4 := (by repeat (first | exact Below.refl _ _ | assumption | refine Below.setCell ?_ (by first | (simp; done) | (simp; omega) | omega) _ | refine Below.drew ?_ | refine below_drewN ?_ _ | refine Below.alloc ?_ (by first | (simp; done) | (simp; omega) | omega) _ | refine below_alloc ?_ _ | refine below_step ?_ (by assumption))); have hz_w4 := hB_w4.size; clear hb
            go_wp2
            go_ret
            exact ⟨ret_bool hfin.out.symm, (by repeat (first | exact Below.refl _ _ | assumption | refine Below.setCell ?_ (by first | (simp; done) | (simp; omega) | omega) _ | refine Below.drew ?_ | refine below_drewN ?_ _ | refine Below.alloc ?_ (by first | (simp; done) | (simp; omega) | omega) _ | refine below_alloc ?_ _ | refine below_step ?_ (by assumption)))⟩
end Go.Proofs.Ytkphkknlenjjhaa

namespace Go.Proofs.Ytkphkknlenjjhaa
open Go.RowKit
attribute [local go_sem] Later.cell

set_option maxRecDepth 20000 in
set_option maxHeartbeats 4000000 in
theorem bearing_any (c : Clb) (A : Option Addr) (len cap : Nat) (l : List J) (A' : Option Addr) (n cap' : Nat) (ds : List Int) (A2 : Option Addr) (m cap2 : Nat) (ls : List Int) (w : World) (hm : len ≤ 9223372036854775807) (hm' : n ≤ 100000) (hm2 : m ≤ 100000000) (hx : Rows 2 jointV dJ w w.heap.size A len l) (hy : Ints w w.heap.size A' n ds) (hz : Ints w w.heap.size A2 m ls) :
    Calls Try.prog 25 #[climbV c, .slice A len cap, .slice A' n cap', .slice A2 m cap2] w fun e w' => e = .returned (.tuple #[.int .i64 (bearG c l ds ls), .int .i64 (bearE c l ds ls)]) ∧ Below w.heap.size w w' := by
  have c1 := fun W (h : Below w.heap.size w W) => valid_any c A len cap l W hm ((hx.below h).more h.size)
  have c2 := fun W (h : Below w.heap.size w W) => Set_any c A len cap l A' n cap' ds A2 m cap2 ls W hm (by omega) hm2 ((hx.below h).more h.size) ((hy.below h).more h.size) ((hz.below h).more h.size)
  have hE : bearE c l ds ls = if vC c && vJ l then (if setB c l ds ls then 0 else 10) else 1 := rfl
  have hG : bearG c l ds ls = if setB c l ds ls then bearK c l ds ls ls.length else 0 := rfl
  rw [hz.1] at hG
  cases hv : (vC c && vJ l)
  · have hr : setB c l ds ls = false := by
      cases h : setB c l ds ls
      · rfl
      · rw [right_valid (set_right h)] at hv; cases hv
    rw [hv] at c1 hE
    rw [hr] at hG
    change bearE c l ds ls = 1 at hE
    change bearG c l ds ls = 0 at hG
    rw [hE, hG]
    have C1 := Lib.hid c1
    clear c1 c2 hx hy hz hv hE hG hr
    go_enter Try.func25, Try.ntmps25
    go_wp2_with fail
    refine (C1.out _ (by repeat (first | exact Below.refl _ _ | assumption | refine Below.setCell ?_ (by first | (simp; done) | (simp; omega) | omega) _ | refine Below.drew ?_ | refine below_drewN ?_ _ | refine Below.alloc ?_ (by first | (simp; done) | (simp; omega) | omega) _ | refine below_alloc ?_ _ | refine below_step ?_ (by assumption)))).mono ?_
    rintro e w1 ⟨rfl, hb⟩
    have hB_w1 : Below w.heap.size w w1 := (by repeat (first | exact Below.refl _ _ | assumption | refine Below.setCell ?_ (by first | (simp; done) | (simp; omega) | omega) _ | refine Below.drew ?_ | refine below_drewN ?_ _ | refine Below.alloc ?_ (by first | (simp; done) | (simp; omega) | omega) _ | refine below_alloc ?_ _ | refine below_step ?_ (by assumption))); have hz_w1 := hB_w1.size; clear hb
    go_wp2
    go_ret2
    exact ⟨rfl, (by repeat (first | exact Below.refl _ _ | assumption | refine Below.setCell ?_ (by first | (simp; done) | (simp; omega) | omega) _ | refine Below.drew ?_ | refine below_drewN ?_ _ | refine Below.alloc ?_ (by first | (simp; done) | (simp; omega) | omega) _ | refine below_alloc ?_ _ | refine below_step ?_ (by assumption)))⟩
  · cases hr : setB c l ds ls
    · rw [hv] at c1 hE
      rw [hr] at c2 hE hG
      change bearE c l ds ls = 10 at hE
      change bearG c l ds ls = 0 at hG
      rw [hE, hG]
      have C1 := Lib.hid c1
      have C2 := Lib.hid c2
      clear c1 c2 hx hy hz hv hE hG hr
      go_enter Try.func25, Try.ntmps25
      go_wp2_with fail
      refine (C1.out _ (by repeat (first | exact Below.refl _ _ | assumption | refine Below.setCell ?_ (by first | (simp; done) | (simp; omega) | omega) _ | refine Below.drew ?_ | refine below_drewN ?_ _ | refine Below.alloc ?_ (by first | (simp; done) | (simp; omega) | omega) _ | refine below_alloc ?_ _ | refine below_step ?_ (by assumption)))).mono ?_
      rintro e w1 ⟨rfl, hb⟩
      have hB_w1 : Below w.heap.size w w1 := (by repeat (first | exact Below.refl _ _ | assumption | refine Below.setCell ?_ (by first | (simp; done) | (simp; omega) | omega) _ | refine Below.drew ?_ | refine below_drewN ?_ _ | refine Below.alloc ?_ (by first | (simp; done) | (simp; omega) | omega) _ | refine below_alloc ?_ _ | refine below_step ?_ (by assumption))); have hz_w1 := hB_w1.size; have hsw10 : w.heap.size < w1.heap.size := Nat.lt_of_lt_of_le (by first | (simp; done) | (simp; omega) | omega) hb.size; have hnw10 : ¬ w.heap.size = w1.heap.size := (by omega); have hmw10 : ¬ w1.heap.size = w.heap.size := (by omega); have hlw10_0 : w.heap.size ≤ w1.heap.size := (by omega); have hlw10_1 : w.heap.size ≤ w1.heap.size + 1 := (by omega); have hlw10_2 : w.heap.size ≤ w1.heap.size + 1 + 1 := (by omega); have hkw10 : w1.cell? ⟨w.heap.size, 0, none⟩ = some (.int .i64 c.fi) := (by rw [hb.cell (p := ⟨w.heap.size, 0, none⟩) (by first | (simp; done) | (simp; omega) | omega)]; first | (go_simp; done) | assumption); have hkw11 : w1.cell? ⟨w.heap.size, 1, none⟩ = some (.int .i64 c.ga) := (by rw [hb.cell (p := ⟨w.heap.size, 1, none⟩) (by first | (simp; done) | (simp; omega) | omega)]; first | (go_simp; done) | assumption); have hkw12 : w1.cell? ⟨w.heap.size, 2, none⟩ = some (.int .i64 c.to) := (by rw [hb.cell (p := ⟨w.heap.size, 2, none⟩) (by first | (simp; done) | (simp; omega) | omega)]; first | (go_simp; done) | assumption); have hkw13 : w1.cell? ⟨w.heap.size, 3, none⟩ = some (.int .i64 c.le) := (by rw [hb.cell (p := ⟨w.heap.size, 3, none⟩) (by first | (simp; done) | (simp; omega) | omega)]; first | (go_simp; done) | assumption); have hkw14 : w1.cell? ⟨w.heap.size, 4, none⟩ = some (.int .i64 c.la) := (by rw [hb.cell (p := ⟨w.heap.size, 4, none⟩) (by first | (simp; done) | (simp; omega) | omega)]; first | (go_simp; done) | assumption); have hkw15 : w1.cell? ⟨w.heap.size, 5, none⟩ = some (.int .i64 c.st) := (by rw [hb.cell (p := ⟨w.heap.size, 5, none⟩) (by first | (simp; done) | (simp; omega) | omega)]; first | (go_simp; done) | assumption); clear hb
      go_wp2_with fail
      refine (C2.out _ (by repeat (first | exact Below.refl _ _ | assumption | refine Below.setCell ?_ (by first | (simp; done) | (simp; omega) | omega) _ | refine Below.drew ?_ | refine below_drewN ?_ _ | refine Below.alloc ?_ (by first | (simp; done) | (simp; omega) | omega) _ | refine below_alloc ?_ _ | refine below_step ?_ (by assumption)))).mono ?_
      rintro e w2 ⟨rfl, hb⟩
      have hB_w2 : Below w.heap.size w w2 := (by repeat (first | exact Below.refl _ _ | assumption | refine Below.setCell ?_ (by first | (simp; done) | (simp; omega) | omega) _ | refine Below.drew ?_ | refine below_drewN ?_ _ | refine Below.alloc ?_ (by first | (simp; done) | (simp; omega) | omega) _ | refine below_alloc ?_ _ | refine below_step ?_ (by assumption))); have hz_w2 := hB_w2.size; clear hb hB_w1 hlw10_0 hlw10_1 hlw10_2 hkw10 hkw11 hkw12 hkw13 hkw14 hkw15
      go_wp2
      go_ret2
      exact ⟨rfl, (by repeat (first | exact Below.refl _ _ | assumption | refine Below.setCell ?_ (by first | (simp; done) | (simp; omega) | omega) _ | refine Below.drew ?_ | refine below_drewN ?_ _ | refine Below.alloc ?_ (by first | (simp; done) | (simp; omega) | omega) _ | refine below_alloc ?_ _ | refine below_step ?_ (by assumption)))⟩
    · have hvv := Bool.and_eq_true .. ▸ hv
      have hwk := wall_ok (set_right hr)
      have hst := (vC_spec hvv.1).2.2.2.2.2
      have hsp := (set_spec hr).2
      rw [hz.1, hy.1] at hsp
      have c3 := fun f W (h : Below w.heap.size w W) (hf : f < n) => on_any c A len cap l A' n cap' ds f W hvv.1 hm (by omega) ((hx.below h).more h.size) ((hy.below h).more h.size) hwk hf
      have hbd := fun k h => bearK_bd (c := c) (l := l) (ds := ds) (ls := ls) hst.1 (fun k hk => ((set_spec hr).2 k hk).2.2) k h
      rw [hz.1] at hbd
      have hnx : ∀ k, bearK c l ds ls (k + 1) = min (bearK c l ds ls k) (c.st * ((onN c l ds (num ls k).toNat : Int) - 1)) := fun k => rfl
      have hon : ∀ f, onN c l ds f = (onI c l ds f n).length := fun f => by unfold onN; rw [hy.1]
      have hole : ∀ f, onN c l ds f ≤ n := fun f => by have := onN_le c l ds f; rw [hy.1] at this; exact this
      rw [hv] at c1 hE
      rw [hr] at c2 hE hG
      change bearE c l ds ls = 0 at hE
      change bearG c l ds ls = bearK c l ds ls m at hG
      rw [hE, hG]
      have C1 := Lib.hid c1
      have C2 := Lib.hid c2
      have C3 := Lib.hid c3
      have HZ := Lib.hid hz
      have HSP := Lib.hid hsp
      have HBD := Lib.hid hbd
      have HNX := Lib.hid hnx
      have HON := Lib.hid hon
      have HOL := Lib.hid hole
      clear c1 c2 c3 hx hy hz hv hE hG hr hvv hwk hsp hbd hnx hon hole
      go_enter Try.func25, Try.ntmps25
      go_wp2_with fail
      refine (C1.out _ (by repeat (first | exact Below.refl _ _ | assumption | refine Below.setCell ?_ (by first | (simp; done) | (simp; omega) | omega) _ | refine Below.drew ?_ | refine below_drewN ?_ _ | refine Below.alloc ?_ (by first | (simp; done) | (simp; omega) | omega) _ | refine below_alloc ?_ _ | refine below_step ?_ (by assumption)))).mono ?_
      rintro e w1 ⟨rfl, hb⟩
      have hB_w1 : Below w.heap.size w w1 := (by repeat (first | exact Below.refl _ _ | assumption | refine Below.setCell ?_ (by first | (simp; done) | (simp; omega) | omega) _ | refine Below.drew ?_ | refine below_drewN ?_ _ | refine Below.alloc ?_ (by first | (simp; done) | (simp; omega) | omega) _ | refine below_alloc ?_ _ | refine below_step ?_ (by assumption))); have hz_w1 := hB_w1.size; have hsw10 : w.heap.size < w1.heap.size := Nat.lt_of_lt_of_le (by first | (simp; done) | (simp; omega) | omega) hb.size; have hnw10 : ¬ w.heap.size = w1.heap.size := (by omega); have hmw10 : ¬ w1.heap.size = w.heap.size := (by omega); have hlw10_0 : w.heap.size ≤ w1.heap.size := (by omega); have hlw10_1 : w.heap.size ≤ w1.heap.size + 1 := (by omega); have hlw10_2 : w.heap.size ≤ w1.heap.size + 1 + 1 := (by omega); have hkw10 : w1.cell? ⟨w.heap.size, 0, none⟩ = some (.int .i64 c.fi) := (by rw [hb.cell (p := ⟨w.heap.size, 0, none⟩) (by first | (simp; done) | (simp; omega) | omega)]; first | (go_simp; done) | assumption); have hkw11 : w1.cell? ⟨w.heap.size, 1, none⟩ = some (.int .i64 c.ga) := (by rw [hb.cell (p := ⟨w.heap.size, 1, none⟩) (by first | (simp; done) | (simp; omega) | omega)]; first | (go_simp; done) | assumption); have hkw12 : w1.cell? ⟨w.heap.size, 2, none⟩ = some (.int .i64 c.to) := (by rw [hb.cell (p := ⟨w.heap.size, 2, none⟩) (by first | (simp; done) | (simp; omega) | omega)]; first | (go_simp; done) | assumption); have hkw13 : w1.cell? ⟨w.heap.size, 3, none⟩ = some (.int .i64 c.le) := (by rw [hb.cell (p := ⟨w.heap.size, 3, none⟩) (by first | (simp; done) | (simp; omega) | omega)]; first | (go_simp; done) | assumption); have hkw14 : w1.cell? ⟨w.heap.size, 4, none⟩ = some (.int .i64 c.la) := (by rw [hb.cell (p := ⟨w.heap.size, 4, none⟩) (by first | (simp; done) | (simp; omega) | omega)]; first | (go_simp; done) | assumption); have hkw15 : w1.cell? ⟨w.heap.size, 5, none⟩ = some (.int .i64 c.st) := (by rw [hb.cell (p := ⟨w.heap.size, 5, none⟩) (by first | (simp; done) | (simp; omega) | omega)]; first | (go_simp; done) | assumption); clear hb
      go_wp2_with fail
      refine (C2.out _ (by repeat (first | exact Below.refl _ _ | assumption | refine Below.setCell ?_ (by first | (simp; done) | (simp; omega) | omega) _ | refine Below.drew ?_ | refine below_drewN ?_ _ | refine Below.alloc ?_ (by first | (simp; done) | (simp; omega) | omega) _ | refine below_alloc ?_ _ | refine below_step ?_ (by assumption)))).mono ?_
      rintro e w2 ⟨rfl, hb⟩
      have hB_w2 : Below w.heap.size w w2 := (by repeat (first | exact Below.refl _ _ | assumption | refine Below.setCell ?_ (by first | (simp; done) | (simp; omega) | omega) _ | refine Below.drew ?_ | refine below_drewN ?_ _ | refine Below.alloc ?_ (by first | (simp; done) | (simp; omega) | omega) _ | refine below_alloc ?_ _ | refine below_step ?_ (by assumption))); have hz_w2 := hB_w2.size; have hsw20 : w.heap.size < w2.heap.size := Nat.lt_of_lt_of_le (by first | (simp; done) | (simp; omega) | omega) hb.size; have hnw20 : ¬ w.heap.size = w2.heap.size := (by omega); have hmw20 : ¬ w2.heap.size = w.heap.size := (by omega); have hlw20_0 : w.heap.size ≤ w2.heap.size := (by omega); have hlw20_1 : w.heap.size ≤ w2.heap.size + 1 := (by omega); have hlw20_2 : w.heap.size ≤ w2.heap.size + 1 + 1 := (by omega); have hkw20 : w2.cell? ⟨w.heap.size, 0, none⟩ = some (.int .i64 c.fi) := (by rw [hb.cell (p := ⟨w.heap.size, 0, none⟩) (by first | (simp; done) | (simp; omega) | omega)]; first | (go_simp; done) | assumption); have hkw21 : w2.cell? ⟨w.heap.size, 1, none⟩ = some (.int .i64 c.ga) := (by rw [hb.cell (p := ⟨w.heap.size, 1, none⟩) (by first | (simp; done) | (simp; omega) | omega)]; first | (go_simp; done) | assumption); have hkw22 : w2.cell? ⟨w.heap.size, 2, none⟩ = some (.int .i64 c.to) := (by rw [hb.cell (p := ⟨w.heap.size, 2, none⟩) (by first | (simp; done) | (simp; omega) | omega)]; first | (go_simp; done) | assumption); have hkw23 : w2.cell? ⟨w.heap.size, 3, none⟩ = some (.int .i64 c.le) := (by rw [hb.cell (p := ⟨w.heap.size, 3, none⟩) (by first | (simp; done) | (simp; omega) | omega)]; first | (go_simp; done) | assumption); have hkw24 : w2.cell? ⟨w.heap.size, 4, none⟩ = some (.int .i64 c.la) := (by rw [hb.cell (p := ⟨w.heap.size, 4, none⟩) (by first | (simp; done) | (simp; omega) | omega)]; first | (go_simp; done) | assumption); have hkw25 : w2.cell? ⟨w.heap.size, 5, none⟩ = some (.int .i64 c.st) := (by rw [hb.cell (p := ⟨w.heap.size, 5, none⟩) (by first | (simp; done) | (simp; omega) | omega)]; first | (go_simp; done) | assumption); clear hb hB_w1 hlw10_0 hlw10_1 hlw10_2 hkw10 hkw11 hkw12 hkw13 hkw14 hkw15
      go_wp2
      go_loopw [32, 10] (fun i x wr => ∃ k : Nat, k ≤ m ∧ i = .int .i64 k ∧ x = .int .i64 (bearK c l ds ls k) ∧ Below (w2.alloc (.cells #[.int .i64 c.fi, .int .i64 c.ga, .int .i64 c.to, .int .i64 c.le, .int .i64 c.la, .int .i64 c.st, .slice A len cap, .slice A' n cap'] 99)).heap.size (w2.alloc (.cells #[.int .i64 c.fi, .int .i64 c.ga, .int .i64 c.to, .int .i64 c.le, .int .i64 c.la, .int .i64 c.st, .slice A len cap, .slice A' n cap'] 99)) wr) (fun i _ _ => m - (intOf i).toNat)
      case atStart => exact ⟨0, Nat.zero_le _, rfl, rfl, Below.refl _ _⟩
      case round =>
        obtain ⟨k, hk, rfl, rfl, hb⟩ := hrel
        have hb' := hb
        have hB0 : Below w.heap.size w wr := (hB_w2.alloc hz_w2 _).trans (hb.mono (by simp; omega))
        have hB0s := hB0.size
        have hB_wr : Below w.heap.size w wr := (by repeat (first | exact Below.refl _ _ | assumption | refine Below.setCell ?_ (by first | (simp; done) | (simp; omega) | omega) _ | refine Below.drew ?_ | refine below_drewN ?_ _ | refine Below.alloc ?_ (by first | (simp; done) | (simp; omega) | omega) _ | refine below_alloc ?_ _ | refine below_step ?_ (by assumption))); have hz_wr := hB_wr.size; have hswr0 : w.heap.size < wr.heap.size := Nat.lt_of_lt_of_le (by first | (simp; done) | (simp; omega) | omega) hb.size; have hnwr0 : ¬ w.heap.size = wr.heap.size := (by omega); have hmwr0 : ¬ wr.heap.size = w.heap.size := (by omega); have hlwr0_0 : w.heap.size ≤ wr.heap.size := (by omega); have hlwr0_1 : w.heap.size ≤ wr.heap.size + 1 := (by omega); have hlwr0_2 : w.heap.size ≤ wr.heap.size + 1 + 1 := (by omega); have hkwr0 : wr.cell? ⟨w.heap.size, 0, none⟩ = some (.int .i64 c.fi) := (by rw [hb.cell (p := ⟨w.heap.size, 0, none⟩) (by first | (simp; done) | (simp; omega) | omega)]; first | (go_simp; done) | assumption); have hkwr1 : wr.cell? ⟨w.heap.size, 1, none⟩ = some (.int .i64 c.ga) := (by rw [hb.cell (p := ⟨w.heap.size, 1, none⟩) (by first | (simp; done) | (simp; omega) | omega)]; first | (go_simp; done) | assumption); have hkwr2 : wr.cell? ⟨w.heap.size, 2, none⟩ = some (.int .i64 c.to) := (by rw [hb.cell (p := ⟨w.heap.size, 2, none⟩) (by first | (simp; done) | (simp; omega) | omega)]; first | (go_simp; done) | assumption); have hkwr3 : wr.cell? ⟨w.heap.size, 3, none⟩ = some (.int .i64 c.le) := (by rw [hb.cell (p := ⟨w.heap.size, 3, none⟩) (by first | (simp; done) | (simp; omega) | omega)]; first | (go_simp; done) | assumption); have hkwr4 : wr.cell? ⟨w.heap.size, 4, none⟩ = some (.int .i64 c.la) := (by rw [hb.cell (p := ⟨w.heap.size, 4, none⟩) (by first | (simp; done) | (simp; omega) | omega)]; first | (go_simp; done) | assumption); have hkwr5 : wr.cell? ⟨w.heap.size, 5, none⟩ = some (.int .i64 c.st) := (by rw [hb.cell (p := ⟨w.heap.size, 5, none⟩) (by first | (simp; done) | (simp; omega) | omega)]; first | (go_simp; done) | assumption); have hswr6 : w2.heap.size < wr.heap.size := Nat.lt_of_lt_of_le (by first | (simp; done) | (simp; omega) | omega) hb.size; have hnwr6 : ¬ w2.heap.size = wr.heap.size := (by omega); have hmwr6 : ¬ wr.heap.size = w2.heap.size := (by omega); have hlwr6_0 : w2.heap.size ≤ wr.heap.size := (by omega); have hlwr6_1 : w2.heap.size ≤ wr.heap.size + 1 := (by omega); have hlwr6_2 : w2.heap.size ≤ wr.heap.size + 1 + 1 := (by omega); have hkwr6 : wr.cell? ⟨w2.heap.size, 0, none⟩ = some (.int .i64 c.fi) := (by rw [hb.cell (p := ⟨w2.heap.size, 0, none⟩) (by first | (simp; done) | (simp; omega) | omega)]; first | (go_simp; done) | assumption); have hkwr7 : wr.cell? ⟨w2.heap.size, 1, none⟩ = some (.int .i64 c.ga) := (by rw [hb.cell (p := ⟨w2.heap.size, 1, none⟩) (by first | (simp; done) | (simp; omega) | omega)]; first | (go_simp; done) | assumption); have hkwr8 : wr.cell? ⟨w2.heap.size, 2, none⟩ = some (.int .i64 c.to) := (by rw [hb.cell (p := ⟨w2.heap.size, 2, none⟩) (by first | (simp; done) | (simp; omega) | omega)]; first | (go_simp; done) | assumption); have hkwr9 : wr.cell? ⟨w2.heap.size, 3, none⟩ = some (.int .i64 c.le) := (by rw [hb.cell (p := ⟨w2.heap.size, 3, none⟩) (by first | (simp; done) | (simp; omega) | omega)]; first | (go_simp; done) | assumption); have hkwr10 : wr.cell? ⟨w2.heap.size, 4, none⟩ = some (.int .i64 c.la) := (by rw [hb.cell (p := ⟨w2.heap.size, 4, none⟩) (by first | (simp; done) | (simp; omega) | omega)]; first | (go_simp; done) | assumption); have hkwr11 : wr.cell? ⟨w2.heap.size, 5, none⟩ = some (.int .i64 c.st) := (by rw [hb.cell (p := ⟨w2.heap.size, 5, none⟩) (by first | (simp; done) | (simp; omega) | omega)]; first | (go_simp; done) | assumption); have hkwr12 : wr.cell? ⟨w2.heap.size, 6, none⟩ = some (.slice A len cap) := (by rw [hb.cell (p := ⟨w2.heap.size, 6, none⟩) (by first | (simp; done) | (simp; omega) | omega)]; first | (go_simp; done) | assumption); have hkwr13 : wr.cell? ⟨w2.heap.size, 7, none⟩ = some (.slice A' n cap') := (by rw [hb.cell (p := ⟨w2.heap.size, 7, none⟩) (by first | (simp; done) | (simp; omega) | omega)]; first | (go_simp; done) | assumption); clear hb hB_w2 hlw20_0 hlw20_1 hlw20_2 hkw20 hkw21 hkw22 hkw23 hkw24 hkw25
        by_cases hlt : k < m
        · obtain ⟨b, off, rfl, hb0, hc1⟩ := (HZ.out.below hB0).at_ k hlt
          have hdk := HSP.out k hlt
          obtain ⟨D, hDe⟩ : ∃ D : Nat, num ls k = (D : Int) := ⟨_, (Int.toNat_of_nonneg hdk.1).symm⟩
          have hDl : D < n := by omega
          change wr.cell? ⟨b, off + k, none⟩ = some (.int .i64 (num ls k)) at hc1
          have hnx := HNX.out k
          have hol := HOL.out D
          have hbd := HBD.out k (by omega)
          rw [hDe, Int.toNat_natCast, HON.out] at hnx hdk
          rw [HON.out] at hol
          rw [hDe] at hc1
          have hdk2 := hdk.2.2
          have c4 := fun W (h : Below w.heap.size w W) => C3.out D W h hDl
          generalize onI c l ds D n = R at *
          generalize bearK c l ds ls k = G at *
          have HNX2 := Lib.hid hnx
          have C4 := Lib.hid c4
          have hb1 : b < wr.heap.size := by omega
          obtain ⟨q, hq⟩ : ∃ q : Nat, R.length = q + 1 := ⟨R.length - 1, by omega⟩
          have hp0 : 0 ≤ c.st * ((R.length : Int) - 1) := Int.mul_nonneg (by omega) (by omega)
          have hp1 : c.st * ((R.length : Int) - 1) ≤ 1000000 * ((R.length : Int) - 1) := Int.mul_le_mul_of_nonneg_right (by omega) (by omega)
          have hp2 : c.st * ((R.length : Int) - 1) ≤ 9223372036854775807 := by omega
          clear c4 hnx hDe hdk hp1 hq
          have hbd' : Below wr.heap.size wr wr.drew := (Below.refl _ _).drew
          go_wp2
          go_region_with (go_at_call 45; refine (C4.out _ (by repeat (first | exact Below.refl _ _ | assumption | refine Below.setCell ?_ (by first | (simp; done) | (simp; omega) | omega) _ | refine Below.drew ?_ | refine below_drewN ?_ _ | refine Below.alloc ?_ (by first | (simp; done) | (simp; omega) | omega) _ | refine below_alloc ?_ _ | refine below_step ?_ (by assumption)))).mono ?_; rintro e w5 ⟨⟨v5, rfl, ho5⟩, hb⟩; obtain ⟨A5, k5, rfl, hm5, hm6, -⟩ := own_ints ho5; clear ho5; have hbq := hbd'.trans (hb.mono (by simp)); have hB_w5 : Below w.heap.size w w5 := (by repeat (first | exact Below.refl _ _ | assumption | refine Below.setCell ?_ (by first | (simp; done) | (simp; omega) | omega) _ | refine Below.drew ?_ | refine below_drewN ?_ _ | refine Below.alloc ?_ (by first | (simp; done) | (simp; omega) | omega) _ | refine below_alloc ?_ _ | refine below_step ?_ (by assumption))); have hz_w5 := hB_w5.size; have hsw50 : w.heap.size < w5.heap.size := Nat.lt_of_lt_of_le (by first | (simp; done) | (simp; omega) | omega) hb.size; have hnw50 : ¬ w.heap.size = w5.heap.size := (by omega); have hmw50 : ¬ w5.heap.size = w.heap.size := (by omega); have hlw50_0 : w.heap.size ≤ w5.heap.size := (by omega); have hlw50_1 : w.heap.size ≤ w5.heap.size + 1 := (by omega); have hlw50_2 : w.heap.size ≤ w5.heap.size + 1 + 1 := (by omega); have hkw50 : w5.cell? ⟨w.heap.size, 0, none⟩ = some (.int .i64 c.fi) := (by rw [hb.cell (p := ⟨w.heap.size, 0, none⟩) (by first | (simp; done) | (simp; omega) | omega)]; first | (go_simp; done) | assumption); have hkw51 : w5.cell? ⟨w.heap.size, 1, none⟩ = some (.int .i64 c.ga) := (by rw [hb.cell (p := ⟨w.heap.size, 1, none⟩) (by first | (simp; done) | (simp; omega) | omega)]; first | (go_simp; done) | assumption); have hkw52 : w5.cell? ⟨w.heap.size, 2, none⟩ = some (.int .i64 c.to) := (by rw [hb.cell (p := ⟨w.heap.size, 2, none⟩) (by first | (simp; done) | (simp; omega) | omega)]; first | (go_simp; done) | assumption); have hkw53 : w5.cell? ⟨w.heap.size, 3, none⟩ = some (.int .i64 c.le) := (by rw [hb.cell (p := ⟨w.heap.size, 3, none⟩) (by first | (simp; done) | (simp; omega) | omega)]; first | (go_simp; done) | assumption); have hkw54 : w5.cell? ⟨w.heap.size, 4, none⟩ = some (.int .i64 c.la) := (by rw [hb.cell (p := ⟨w.heap.size, 4, none⟩) (by first | (simp; done) | (simp; omega) | omega)]; first | (go_simp; done) | assumption); have hkw55 : w5.cell? ⟨w.heap.size, 5, none⟩ = some (.int .i64 c.st) := (by rw [hb.cell (p := ⟨w.heap.size, 5, none⟩) (by first | (simp; done) | (simp; omega) | omega)]; first | (go_simp; done) | assumption); have hsw56 : w2.heap.size < w5.heap.size := Nat.lt_of_lt_of_le (by first | (simp; done) | (simp; omega) | omega) hb.size; have hnw56 : ¬ w2.heap.size = w5.heap.size := (by omega); have hmw56 : ¬ w5.heap.size = w2.heap.size := (by omega); have hlw56_0 : w2.heap.size ≤ w5.heap.size := (by omega); have hlw56_1 : w2.heap.size ≤ w5.heap.size + 1 := (by omega); have hlw56_2 : w2.heap.size ≤ w5.heap.size + 1 + 1 := (by omega); have hkw56 : w5.cell? ⟨w2.heap.size, 0, none⟩ = some (.int .i64 c.fi) := (by rw [hb.cell (p := ⟨w2.heap.size, 0, none⟩) (by first | (simp; done) | (simp; omega) | omega)]; first | (go_simp; done) | assumption); have hkw57 : w5.cell? ⟨w2.heap.size, 1, none⟩ = some (.int .i64 c.ga) := (by rw [hb.cell (p := ⟨w2.heap.size, 1, none⟩) (by first | (simp; done) | (simp; omega) | omega)]; first | (go_simp; done) | assumption); have hkw58 : w5.cell? ⟨w2.heap.size, 2, none⟩ = some (.int .i64 c.to) := (by rw [hb.cell (p := ⟨w2.heap.size, 2, none⟩) (by first | (simp; done) | (simp; omega) | omega)]; first | (go_simp; done) | assumption); have hkw59 : w5.cell? ⟨w2.heap.size, 3, none⟩ = some (.int .i64 c.le) := (by rw [hb.cell (p := ⟨w2.heap.size, 3, none⟩) (by first | (simp; done) | (simp; omega) | omega)]; first | (go_simp; done) | assumption); have hkw510 : w5.cell? ⟨w2.heap.size, 4, none⟩ = some (.int .i64 c.la) := (by rw [hb.cell (p := ⟨w2.heap.size, 4, none⟩) (by first | (simp; done) | (simp; omega) | omega)]; first | (go_simp; done) | assumption); have hkw511 : w5.cell? ⟨w2.heap.size, 5, none⟩ = some (.int .i64 c.st) := (by rw [hb.cell (p := ⟨w2.heap.size, 5, none⟩) (by first | (simp; done) | (simp; omega) | omega)]; first | (go_simp; done) | assumption); have hkw512 : w5.cell? ⟨w2.heap.size, 6, none⟩ = some (.slice A len cap) := (by rw [hb.cell (p := ⟨w2.heap.size, 6, none⟩) (by first | (simp; done) | (simp; omega) | omega)]; first | (go_simp; done) | assumption); have hkw513 : w5.cell? ⟨w2.heap.size, 7, none⟩ = some (.slice A' n cap') := (by rw [hb.cell (p := ⟨w2.heap.size, 7, none⟩) (by first | (simp; done) | (simp; omega) | omega)]; first | (go_simp; done) | assumption); clear hb)
          all_goals
            have hb5 := hb'.trans (hbq.mono hb'.size)
            clear hbq
            go_wp2
            go_roundw
            case rel => exact ⟨k + 1, by omega, by go_num, by rw [HNX2.out], hb5⟩
            case measure => simp [intOf]; omega
        · obtain rfl : k = m := by omega
          go_wp2
          go_ret2
          exact ⟨rfl, hB0⟩
end Go.Proofs.Ytkphkknlenjjhaa

namespace Go.Proofs.Ytkphkknlenjjhaa
open Go.RowKit
attribute [local go_sem] Later.cell

set_option maxHeartbeats 2000000 in
theorem Bears_any (c : Clb) (A : Option Addr) (len cap : Nat) (l : List J) (A' : Option Addr) (n cap' : Nat) (ds : List Int) (A2 : Option Addr) (m cap2 : Nat) (ls : List Int) (x : Int) (w : World) (hm : len ≤ 9223372036854775807) (hm' : n ≤ 100000) (hm2 : m ≤ 100000000) (hx : Rows 2 jointV dJ w w.heap.size A len l) (hy : Ints w w.heap.size A' n ds) (hz : Ints w w.heap.size A2 m ls) :
    Calls Try.prog 14 #[climbV c, .slice A len cap, .slice A' n cap', .slice A2 m cap2, .int .i64 x] w fun e w' => e = .returned (.tuple #[.bool (beV c l ds ls x), .int .i64 (beE c l ds ls x)]) ∧ Below w.heap.size w w' := by
  have c1 := fun W (h : Below w.heap.size w W) => bearing_any c A len cap l A' n cap' ds A2 m cap2 ls W hm hm' hm2 ((hx.below h).more h.size) ((hy.below h).more h.size) ((hz.below h).more h.size)
  have c2 := fun W => within_any3 x 0 1000000000 W
  have hE : bearE c l ds ls = if vC c && vJ l then (if setB c l ds ls then 0 else 10) else 1 := rfl
  have hE2 : beE c l ds ls x = if vC c && vJ l then (if withinB x 0 1000000000 then (if setB c l ds ls then 0 else 10) else 7) else 1 := rfl
  have hV : beV c l ds ls x = ((vC c && vJ l) && (withinB x 0 1000000000 && (setB c l ds ls && decide (x ≤ bearK c l ds ls ls.length)))) := rfl
  have hG : setB c l ds ls = true → bearG c l ds ls = bearK c l ds ls ls.length := fun h => by unfold bearG; rw [h]; rfl
  cases hv : (vC c && vJ l)
  · rw [hv] at hE hE2 hV
    change bearE c l ds ls = 1 at hE
    change beE c l ds ls x = 1 at hE2
    change beV c l ds ls x = false at hV
    rw [hE2, hV]
    rw [hE] at c1
    have C1 := Lib.hid c1
    clear c1 c2 hx hy hz hv hE hG hE2 hV
    go_enter Try.func14, Try.ntmps14
    go_wp2_with fail
    refine (C1.out _ (by repeat (first | exact Below.refl _ _ | assumption | refine Below.setCell ?_ (by first | (simp; done) | (simp; omega) | omega) _ | refine Below.drew ?_ | refine below_drewN ?_ _ | refine Below.alloc ?_ (by first | (simp; done) | (simp; omega) | omega) _ | refine below_alloc ?_ _ | refine below_step ?_ (by assumption)))).mono ?_
    rintro e w1 ⟨rfl, hb⟩
    have hB_w1 : Below w.heap.size w w1 := (by repeat (first | exact Below.refl _ _ | assumption | refine Below.setCell ?_ (by first | (simp; done) | (simp; omega) | omega) _ | refine Below.drew ?_ | refine below_drewN ?_ _ | refine Below.alloc ?_ (by first | (simp; done) | (simp; omega) | omega) _ | refine below_alloc ?_ _ | refine below_step ?_ (by assumption))); have hz_w1 := hB_w1.size; clear hb
    go_wp2
    go_ret2
    exact ⟨rfl, (by repeat (first | exact Below.refl _ _ | assumption | refine Below.setCell ?_ (by first | (simp; done) | (simp; omega) | omega) _ | refine Below.drew ?_ | refine below_drewN ?_ _ | refine Below.alloc ?_ (by first | (simp; done) | (simp; omega) | omega) _ | refine below_alloc ?_ _ | refine below_step ?_ (by assumption)))⟩
  · cases hw : withinB x 0 1000000000
    · rw [hw] at c2
      rw [hv, hw] at hE2 hV
      change beE c l ds ls x = 7 at hE2
      change beV c l ds ls x = false at hV
      rw [hv] at hE
      have hE3 : (bearE c l ds ls == 1) = false := by rw [hE, if_pos rfl]; split <;> rfl
      have hE4 : (bearE c l ds ls != 1) = true := by rw [hE, if_pos rfl]; split <;> rfl
      rw [hE2, hV]
      have C1 := Lib.hid c1
      have C2 := Lib.hid c2
      clear c1 c2 hx hy hz hv hE hG hE2 hV hw
      generalize bearE c l ds ls = E at *
      go_enter Try.func14, Try.ntmps14
      go_wp2_with fail
      refine (C1.out _ (by repeat (first | exact Below.refl _ _ | assumption | refine Below.setCell ?_ (by first | (simp; done) | (simp; omega) | omega) _ | refine Below.drew ?_ | refine below_drewN ?_ _ | refine Below.alloc ?_ (by first | (simp; done) | (simp; omega) | omega) _ | refine below_alloc ?_ _ | refine below_step ?_ (by assumption)))).mono ?_
      rintro e w1 ⟨rfl, hb⟩
      have hB_w1 : Below w.heap.size w w1 := (by repeat (first | exact Below.refl _ _ | assumption | refine Below.setCell ?_ (by first | (simp; done) | (simp; omega) | omega) _ | refine Below.drew ?_ | refine below_drewN ?_ _ | refine Below.alloc ?_ (by first | (simp; done) | (simp; omega) | omega) _ | refine below_alloc ?_ _ | refine below_step ?_ (by assumption))); have hz_w1 := hB_w1.size; clear hb
      go_wp2_with (go_at_call 32; refine (C2.out _).mono ?_; rintro e w' ⟨rfl, rfl⟩)
      go_ret2
      exact ⟨rfl, (by repeat (first | exact Below.refl _ _ | assumption | refine Below.setCell ?_ (by first | (simp; done) | (simp; omega) | omega) _ | refine Below.drew ?_ | refine below_drewN ?_ _ | refine Below.alloc ?_ (by first | (simp; done) | (simp; omega) | omega) _ | refine below_alloc ?_ _ | refine below_step ?_ (by assumption)))⟩
    · rw [hw] at c2
      rw [hv, hw] at hE2 hV
      rw [hv] at hE
      cases hs : setB c l ds ls
      · rw [hs] at hE hE2 hV
        change bearE c l ds ls = 10 at hE
        change beE c l ds ls x = 10 at hE2
        change beV c l ds ls x = false at hV
        rw [hE2, hV]
        rw [hE] at c1
        have C1 := Lib.hid c1
        have C2 := Lib.hid c2
        clear c1 c2 hx hy hz hv hE hG hE2 hV hs hw
        go_enter Try.func14, Try.ntmps14
        go_wp2_with fail
        refine (C1.out _ (by repeat (first | exact Below.refl _ _ | assumption | refine Below.setCell ?_ (by first | (simp; done) | (simp; omega) | omega) _ | refine Below.drew ?_ | refine below_drewN ?_ _ | refine Below.alloc ?_ (by first | (simp; done) | (simp; omega) | omega) _ | refine below_alloc ?_ _ | refine below_step ?_ (by assumption)))).mono ?_
        rintro e w1 ⟨rfl, hb⟩
        have hB_w1 : Below w.heap.size w w1 := (by repeat (first | exact Below.refl _ _ | assumption | refine Below.setCell ?_ (by first | (simp; done) | (simp; omega) | omega) _ | refine Below.drew ?_ | refine below_drewN ?_ _ | refine Below.alloc ?_ (by first | (simp; done) | (simp; omega) | omega) _ | refine below_alloc ?_ _ | refine below_step ?_ (by assumption))); have hz_w1 := hB_w1.size; clear hb
        go_wp2_with (go_at_call 32; refine (C2.out _).mono ?_; rintro e w' ⟨rfl, rfl⟩)
        go_ret2
        exact ⟨rfl, (by repeat (first | exact Below.refl _ _ | assumption | refine Below.setCell ?_ (by first | (simp; done) | (simp; omega) | omega) _ | refine Below.drew ?_ | refine below_drewN ?_ _ | refine Below.alloc ?_ (by first | (simp; done) | (simp; omega) | omega) _ | refine below_alloc ?_ _ | refine below_step ?_ (by assumption)))⟩
      · have hGG := hG hs
        rw [hs] at hE hE2 hV
        rw [← hGG] at hV
        change bearE c l ds ls = 0 at hE
        change beE c l ds ls x = 0 at hE2
        change beV c l ds ls x = decide (x ≤ bearG c l ds ls) at hV
        rw [hE2, hV]
        rw [hE] at c1
        generalize bearG c l ds ls = G at *
        have C1 := Lib.hid c1
        have C2 := Lib.hid c2
        clear c1 c2 hx hy hz hv hE hG hE2 hV hs hw hGG
        go_enter Try.func14, Try.ntmps14
        go_wp2_with fail
        refine (C1.out _ (by repeat (first | exact Below.refl _ _ | assumption | refine Below.setCell ?_ (by first | (simp; done) | (simp; omega) | omega) _ | refine Below.drew ?_ | refine below_drewN ?_ _ | refine Below.alloc ?_ (by first | (simp; done) | (simp; omega) | omega) _ | refine below_alloc ?_ _ | refine below_step ?_ (by assumption)))).mono ?_
        rintro e w1 ⟨rfl, hb⟩
        have hB_w1 : Below w.heap.size w w1 := (by repeat (first | exact Below.refl _ _ | assumption | refine Below.setCell ?_ (by first | (simp; done) | (simp; omega) | omega) _ | refine Below.drew ?_ | refine below_drewN ?_ _ | refine Below.alloc ?_ (by first | (simp; done) | (simp; omega) | omega) _ | refine below_alloc ?_ _ | refine below_step ?_ (by assumption))); have hz_w1 := hB_w1.size; clear hb
        go_wp2_with (go_at_call 32; refine (C2.out _).mono ?_; rintro e w' ⟨rfl, rfl⟩)
        go_ret2
        exact ⟨rfl, (by repeat (first | exact Below.refl _ _ | assumption | refine Below.setCell ?_ (by first | (simp; done) | (simp; omega) | omega) _ | refine Below.drew ?_ | refine below_drewN ?_ _ | refine Below.alloc ?_ (by first | (simp; done) | (simp; omega) | omega) _ | refine below_alloc ?_ _ | refine below_step ?_ (by assumption)))⟩
set_option maxHeartbeats 1000000 in
theorem Greatest_any (c : Clb) (A : Option Addr) (len cap : Nat) (l : List J) (A' : Option Addr) (n cap' : Nat) (ds : List Int) (A2 : Option Addr) (m cap2 : Nat) (ls : List Int) (w : World) (hm : len ≤ 9223372036854775807) (hm' : n ≤ 100000) (hm2 : m ≤ 100000000) (hx : Rows 2 jointV dJ w w.heap.size A len l) (hy : Ints w w.heap.size A' n ds) (hz : Ints w w.heap.size A2 m ls) :
    Calls Try.prog 11 #[climbV c, .slice A len cap, .slice A' n cap', .slice A2 m cap2] w fun e w' => e = .returned (.tuple #[.int .i64 (bearG c l ds ls), .int .i64 (bearE c l ds ls)]) ∧ Below w.heap.size w w' := by
  have c1 := fun W (h : Below w.heap.size w W) => bearing_any c A len cap l A' n cap' ds A2 m cap2 ls W hm hm' hm2 ((hx.below h).more h.size) ((hy.below h).more h.size) ((hz.below h).more h.size)
  generalize bearG c l ds ls = G at *
  generalize bearE c l ds ls = E at *
  have C1 := Lib.hid c1
  clear c1 hx hy hz
  go_enter Try.func11, Try.ntmps11
  go_wp2_with fail
  refine (C1.out _ (by repeat (first | exact Below.refl _ _ | assumption | refine Below.setCell ?_ (by first | (simp; done) | (simp; omega) | omega) _ | refine Below.drew ?_ | refine below_drewN ?_ _ | refine Below.alloc ?_ (by first | (simp; done) | (simp; omega) | omega) _ | refine below_alloc ?_ _ | refine below_step ?_ (by assumption)))).mono ?_
  rintro e w1 ⟨rfl, hb⟩
  have hB_w1 : Below w.heap.size w w1 := (by repeat (first | exact Below.refl _ _ | assumption | refine Below.setCell ?_ (by first | (simp; done) | (simp; omega) | omega) _ | refine Below.drew ?_ | refine below_drewN ?_ _ | refine Below.alloc ?_ (by first | (simp; done) | (simp; omega) | omega) _ | refine below_alloc ?_ _ | refine below_step ?_ (by assumption))); have hz_w1 := hB_w1.size; clear hb
  go_wp2
  go_ret2
  exact ⟨rfl, (by repeat (first | exact Below.refl _ _ | assumption | refine Below.setCell ?_ (by first | (simp; done) | (simp; omega) | omega) _ | refine Below.drew ?_ | refine below_drewN ?_ _ | refine Below.alloc ?_ (by first | (simp; done) | (simp; omega) | omega) _ | refine below_alloc ?_ _ | refine below_step ?_ (by assumption)))⟩

/-! ### The reference -/
end Go.Proofs.Ytkphkknlenjjhaa
