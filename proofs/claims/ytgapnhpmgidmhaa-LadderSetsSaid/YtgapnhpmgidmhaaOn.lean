/- The dogs on a ladder: the program's wall, and the reference. -/
import Derived.Test.YtgapnhpmgidmhaaOnM
import Derived.Test.YtgapnhpmgidmhaaFailM
import Derived.OwnWalk
set_option linter.unusedSimpArgs false
set_option linter.unusedVariables false
namespace Go.Proofs.Ytgapnhpmgidmhaa
open Go.RowKit
attribute [local go_sem] Later.cell

abbrev wallV (c : Clb) (A : Option Addr) (len cap : Nat) (A' : Option Addr) (n cap' : Nat) : Value := .agg #[.int .i64 c.fi, .int .i64 c.ga, .int .i64 c.to, .int .i64 c.le, .int .i64 c.la, .int .i64 c.st, .slice A len cap, .slice A' n cap']

set_option maxHeartbeats 2000000 in
theorem height_any (c : Clb) (A : Option Addr) (len cap : Nat) (l : List J) (A' : Option Addr) (n cap' : Nat) (ds : List Int) (k : Nat) (w : World) (hm : len ≤ 9223372036854775807) (hm' : n ≤ 9223372036854775807) (hx : Rows 2 jointV dJ w w.heap.size A len l) (hy : Ints w w.heap.size A' n ds) (hok : WallOk l ds) (hk : k < n) :
    Calls Try.prog 28 #[wallV c A len cap A' n cap', .int .i64 k] w fun e w' => e = .returned (.int .i64 (hD l ds k)) ∧ Below w.heap.size w w' := by
  have hi := hok.idx k (by rw [hy.1]; exact hk)
  rw [hx.1] at hi
  obtain ⟨b', off', rfl, hb0', hc'⟩ := hy.at_ k hk
  have hD' : hD l ds k = hI l (num ds k) := rfl
  change w.cell? _ = some (.int .i64 (num ds k)) at hc'
  generalize num ds k = D at *
  obtain ⟨d, rfl⟩ : ∃ d : Nat, D = d := ⟨D.toNat, by omega⟩
  rw [hI_nat] at hD'
  rw [hD']
  have hd : d < len := by omega
  have hd2 : (d : Int) < len := by omega
  have hk2 : (k : Int) < n := by omega
  obtain ⟨b, off, rfl, hb0, hc1, hc2⟩ := hx.atJ d hd
  generalize hgt l d = H at *
  generalize sndB l d = Y at *
  clear hi hD' hx hy hok
  go_enter Try.func28, Try.ntmps28
  go_wp2
  (refine wp_region_later (by kernel_rfl) (by kernel_rfl) ?_; (repeat (go_big_quiet_step ((fail)))); refine wpQuiet_nil ?_)
  intro w4 hb
  go_wp2
  go_ret
  exact ⟨rfl, (by repeat (first | exact Below.refl _ _ | assumption | refine Below.setCell ?_ (by first | (simp; done) | (simp; omega) | omega) _ | refine Below.drew ?_ | refine below_drewN ?_ _ | refine Below.alloc ?_ (by first | (simp; done) | (simp; omega) | omega) _ | refine below_alloc ?_ _ | refine below_step ?_ (by assumption)))⟩

/-- The climb's cells, and the wall's two slices, at the head of block g. -/
def OnR (w0 : World) (f n : Nat) (L : Nat → List Int) (v i : Value) (wr : World) : Prop :=
  ∃ k : Nat, f ≤ k ∧ k ≤ n ∧ i = .int .i64 k ∧ wr.ownsRow w0.heap.size 3 1 v (L k).length (icells (L k)) ∧ Below w0.heap.size w0 wr
theorem OnR.mk {w0 : World} {f n : Nat} {L : Nat → List Int} {v i : Value} {wr : World} (k : Nat) (h0 : f ≤ k) (h1 : k ≤ n) (h2 : i = .int .i64 k) (h3 : wr.ownsRow w0.heap.size 3 1 v (L k).length (icells (L k))) (h4 : Below w0.heap.size w0 wr) : OnR w0 f n L v i wr := ⟨k, h0, h1, h2, h3, h4⟩

set_option maxRecDepth 20000 in
set_option maxHeartbeats 2000000 in
theorem on_any (c : Clb) (A : Option Addr) (len cap : Nat) (l : List J) (A' : Option Addr) (n cap' : Nat) (ds : List Int) (f : Nat) (w : World) (hv : vC c = true) (hm : len ≤ 9223372036854775807) (hm' : n ≤ 100000000) (hx : Rows 2 jointV dJ w w.heap.size A len l) (hy : Ints w w.heap.size A' n ds) (hok : WallOk l ds) (hf : f < n) :
    Calls Try.prog 27 #[wallV c A len cap A' n cap', .int .i64 f] w fun e w' => (∃ v, e = .returned v ∧ w'.ownsRow w.heap.size 3 1 v (onI c l ds f n).length (icells (onI c l ds f n))) ∧ Below w.heap.size w w' := by
  have c1 := fun k W (h : Below w.heap.size w W) (hk : k < n) => height_any c A len cap l A' n cap' ds k W hm (by omega) ((hx.below h).more h.size) ((hy.below h).more h.size) hok hk
  have hle := (vC_spec hv).2.2.2.1
  have hyl := hy.1
  have hbf := hok.bd f (by rw [hyl]; exact hf)
  obtain ⟨i0, hi, hz0, hz1, hz2⟩ := info_parts info_int
  have hI0 := Lib.hid hi
  have hI1 := Lib.hid hz0
  have hI2 := Lib.hid hz1
  have hI3 := Lib.hid hz2
  have C1 := Lib.hid c1
  have HK := Lib.hid hok
  have HYL := Lib.hid hyl
  have hst := onI_start c l ds f f (Nat.le_refl _)
  have HST := Lib.hid hst
  clear c1 hx hy hok hi hz0 hz1 hz2 hyl hst hv
  go_enter Try.func27, Try.ntmps27
  go_wp2
  go_loopw [5, 6] (fun v i wr => OnR (w.alloc (.cells #[.int .i64 c.fi, .int .i64 c.ga, .int .i64 c.to, .int .i64 c.le, .int .i64 c.la, .int .i64 c.st, .slice A len cap, .slice A' n cap'] 42)) f n (onI c l ds f) v i wr) (fun _ i _ => n - (intOf i).toNat)
  case atStart => exact OnR.mk f (Nat.le_refl _) (by omega) rfl (by rw [HST.out]; exact World.ownsRow_nil _ _ _ _) (Below.refl _ _)
  case round =>
    obtain ⟨k, hfk, hk, rfl, hown, hb⟩ := hrel
    have hb3 := hb
    have hs3 := hb.size
    have hB_wr : Below w.heap.size w wr := (by repeat (first | exact Below.refl _ _ | assumption | refine Below.setCell ?_ (by first | (simp; done) | (simp; omega) | omega) _ | refine Below.drew ?_ | refine below_drewN ?_ _ | refine Below.alloc ?_ (by first | (simp; done) | (simp; omega) | omega) _ | refine below_alloc ?_ _ | refine below_step ?_ (by assumption))); have hz_wr := hB_wr.size; have hswr0 : w.heap.size < wr.heap.size := Nat.lt_of_lt_of_le (by first | (simp; done) | (simp; omega) | omega) hb.size; have hnwr0 : ¬ w.heap.size = wr.heap.size := (by omega); have hmwr0 : ¬ wr.heap.size = w.heap.size := (by omega); have hlwr0_0 : w.heap.size ≤ wr.heap.size := (by omega); have hlwr0_1 : w.heap.size ≤ wr.heap.size + 1 := (by omega); have hlwr0_2 : w.heap.size ≤ wr.heap.size + 1 + 1 := (by omega); have hkwr0 : wr.cell? ⟨w.heap.size, 0, none⟩ = some (.int .i64 c.fi) := (by rw [hb.cell (p := ⟨w.heap.size, 0, none⟩) (by first | (simp; done) | (simp; omega) | omega)]; first | (go_simp; done) | assumption); have hkwr1 : wr.cell? ⟨w.heap.size, 1, none⟩ = some (.int .i64 c.ga) := (by rw [hb.cell (p := ⟨w.heap.size, 1, none⟩) (by first | (simp; done) | (simp; omega) | omega)]; first | (go_simp; done) | assumption); have hkwr2 : wr.cell? ⟨w.heap.size, 2, none⟩ = some (.int .i64 c.to) := (by rw [hb.cell (p := ⟨w.heap.size, 2, none⟩) (by first | (simp; done) | (simp; omega) | omega)]; first | (go_simp; done) | assumption); have hkwr3 : wr.cell? ⟨w.heap.size, 3, none⟩ = some (.int .i64 c.le) := (by rw [hb.cell (p := ⟨w.heap.size, 3, none⟩) (by first | (simp; done) | (simp; omega) | omega)]; first | (go_simp; done) | assumption); have hkwr4 : wr.cell? ⟨w.heap.size, 4, none⟩ = some (.int .i64 c.la) := (by rw [hb.cell (p := ⟨w.heap.size, 4, none⟩) (by first | (simp; done) | (simp; omega) | omega)]; first | (go_simp; done) | assumption); have hkwr5 : wr.cell? ⟨w.heap.size, 5, none⟩ = some (.int .i64 c.st) := (by rw [hb.cell (p := ⟨w.heap.size, 5, none⟩) (by first | (simp; done) | (simp; omega) | omega)]; first | (go_simp; done) | assumption); have hkwr6 : wr.cell? ⟨w.heap.size, 6, none⟩ = some (.slice A len cap) := (by rw [hb.cell (p := ⟨w.heap.size, 6, none⟩) (by first | (simp; done) | (simp; omega) | omega)]; first | (go_simp; done) | assumption); have hkwr7 : wr.cell? ⟨w.heap.size, 7, none⟩ = some (.slice A' n cap') := (by rw [hb.cell (p := ⟨w.heap.size, 7, none⟩) (by first | (simp; done) | (simp; omega) | omega)]; first | (go_simp; done) | assumption); clear hb
    obtain ⟨A1, cap1, rfl, hn1, hn2, -, -⟩ := own_ints hown
    have HO := Lib.hid hown
    have hLen := onI_len c l ds f k
    clear hown
    by_cases hkn : k < n
    · have hbk := HK.out.bd k (by rw [HYL.out]; exact hkn)
      have hyes := fun h => onI_yes (c := c) (l := l) (ds := ds) hfk (h : hD l ds k ≤ hD l ds f + c.le)
      have hstop := fun h => onI_stop (c := c) HK.out (f := f) (k := k) h ds.length (by rw [HYL.out]; exact hk) (Nat.le_refl _)
      rw [HYL.out] at hstop
      have hkn1 : (k : Int) < n := by omega
      have hkn2 : decide ((k : Int) < n) = true := decide_eq_true hkn1
      have HYS := Lib.hid hyes
      have HSP := Lib.hid hstop
      clear hyes hstop
      by_cases hle2 : hD l ds k ≤ hD l ds f + c.le
      · have HN := Lib.hid (HYS.out hle2)
        have hdec : decide (hD l ds k ≤ hD l ds f + c.le) = true := decide_eq_true hle2
        clear HYS HSP
        go_wp2
        (refine wp_region_later (by kernel_rfl) (by kernel_rfl) ?_; (repeat (go_big_quiet_step ((go_at_call 28; exact later_call (C1.out _ _ (hB_wr.trans ((‹Later wr›).h.mono hz_wr)) (by assumption)))))); refine wpQuiet_nil ?_)
        intro w4 hb
        have hb4 := hb3.trans (hb.mono hs3)
        have hs4 := hb4.size
        have HO4 := Lib.hid (own_later HO.out hb)
        clear hb
        go_wp2_with (at_builtin; go_loud (refine wpList_append_own _ rfl (.tmp 28) (.tmp 30) 25 rfl (w.alloc (.cells #[.int .i64 c.fi, .int .i64 c.ga, .int .i64 c.to, .int .i64 c.le, .int .i64 c.la, .int .i64 c.st, .slice A len cap, .slice A' n cap'] 42)).heap.size 3 i0 (.int .i64 0) 1 8 Try.underlying25 hI0.out hI1.out hI2.out hI3.out rfl (by decide) _ _ _ rfl (HO4.out.alloc _) ⟨w4.heap.size, 0, none⟩ 1 1 [.int .i64 (k : Int)] rfl rfl (news1 _ _ _) (one1 _) (by unfold maxLen; omega) (by omega) (by simp at hs4 ⊢; omega) ?_))
        intro v' w7 hown' hgrow _
        have hb7 : Below (w.alloc (.cells #[.int .i64 c.fi, .int .i64 c.ga, .int .i64 c.to, .int .i64 c.le, .int .i64 c.la, .int .i64 c.st, .slice A len cap, .slice A' n cap'] 42)).heap.size (w.alloc (.cells #[.int .i64 c.fi, .int .i64 c.ga, .int .i64 c.to, .int .i64 c.le, .int .i64 c.la, .int .i64 c.st, .slice A len cap, .slice A' n cap'] 42)) w7 := (below_alloc hb4 _).trans (grown_below hgrow (by simp at hs4 ⊢; omega) (fun q hq => (HO4.out.lt q hq).1))
        have HO7 : Hid (w7.ownsRow (w.alloc (.cells #[.int .i64 c.fi, .int .i64 c.ga, .int .i64 c.to, .int .i64 c.le, .int .i64 c.la, .int .i64 c.st, .slice A len cap, .slice A' n cap'] 42)).heap.size 3 1 v' (onI c l ds f k ++ [(k : Int)]).length (icells (onI c l ds f k ++ [(k : Int)]))) := by
          have e : (w.alloc (.cells #[.int .i64 c.fi, .int .i64 c.ga, .int .i64 c.to, .int .i64 c.le, .int .i64 c.la, .int .i64 c.st, .slice A len cap, .slice A' n cap'] 42)).heap.size = w.heap.size + 1 := by simp
          refine Lib.hid ?_
          rw [e, List.length_append, icells_app]; exact hown'
        clear hown' hgrow
        go_wp2
        go_roundw
        case rel => exact OnR.mk (k + 1) (by omega) (by omega) (by go_num) (by rw [HN.out]; exact HO7.out) hb7
        case measure => simp [intOf]; omega
      · have HN := Lib.hid (HSP.out hle2)
        have hdec : decide (hD l ds k ≤ hD l ds f + c.le) = false := decide_eq_false hle2
        clear HYS HSP
        go_wp2
        (refine wp_region_later (by kernel_rfl) (by kernel_rfl) ?_; (repeat (go_big_quiet_step ((go_at_call 28; exact later_call (C1.out _ _ (hB_wr.trans ((‹Later wr›).h.mono hz_wr)) (by assumption)))))); refine wpQuiet_nil ?_)
        intro w4 hb
        have hB4 : Below w.heap.size w w4 := hB_wr.trans (hb.mono hz_wr)
        have hO4 : w4.ownsRow w.heap.size 3 1 (.slice A1 (onI c l ds f k).length cap1) (onI c l ds f n).length (icells (onI c l ds f n)) := by
          rw [HN.out]; exact own_mono (own_later HO.out hb) (by simp)
        have HO4 := Lib.hid hO4
        clear hO4 hb
        go_wp2
        go_ret
        exact ⟨⟨_, rfl, HO4.out⟩, hB4⟩
    · have hkn' : k = n := by omega
      have hkn2 : decide ((k : Int) < n) = false := decide_eq_false (by omega)
      have hO4 : wr.ownsRow w.heap.size 3 1 (.slice A1 (onI c l ds f k).length cap1) (onI c l ds f n).length (icells (onI c l ds f n)) := by
        have h := own_mono HO.out (base' := w.heap.size) (by simp)
        rw [← hkn']; exact h
      have HO4 := Lib.hid hO4
      clear hO4 hkn'
      go_wp2
      (refine wp_region_later (by kernel_rfl) (by kernel_rfl) ?_; (repeat (go_big_quiet_step ((fail)))); refine wpQuiet_nil ?_)
      intro w4 hb
      have hB4 : Below w.heap.size w w4 := hB_wr.trans (hb.mono hz_wr)
      have HO5 := Lib.hid (own_later HO4.out hb)
      clear hb
      go_wp2
      go_ret
      exact ⟨⟨_, rfl, HO5.out⟩, hB4⟩
end Go.Proofs.Ytgapnhpmgidmhaa
