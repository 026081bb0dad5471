/- The dogs on a ladder: the reference; On of both. -/
import Derived.Test.YtgapnhpmgidmhaaOn
import Derived.Test.YtgapnhpmgidmhaaDogs4
set_option linter.unusedSimpArgs false
set_option linter.unusedVariables false
namespace Go.Proofs.Ytgapnhpmgidmhaa
open Go.RowKit
attribute [local go_sem] Later.cell

/-- The k-th dog's joint. -/
theorem dog_at {w : World} {A : Option Addr} {len : Nat} {l : List J} {A' : Option Addr} {n : Nat} {ds : List Int} (hx : Rows 2 jointV dJ w w.heap.size A len l) (hy : Ints w w.heap.size A' n ds) (hok : WallOk l ds) {k : Nat} (hk : k < n) :
    ∃ d b off b' off' : Nat, d < len ∧ A = some ⟨b, off, none⟩ ∧ b < w.heap.size ∧ A' = some ⟨b', off', none⟩ ∧ b' < w.heap.size ∧ w.cell? ⟨b', off' + k, none⟩ = some (.int .i64 (d : Int)) ∧ w.cell? ⟨b, off + d * 2, none⟩ = some (.int .i64 (hD l ds k)) := by
  have hi := hok.idx k (by rw [hy.1]; exact hk)
  rw [hx.1] at hi
  obtain ⟨b', off', hA', hb0', hc'⟩ := hy.at_ k hk
  change w.cell? _ = some (.int .i64 (num ds k)) at hc'
  have hD' : hD l ds k = hI l (num ds k) := rfl
  generalize num ds k = D at *
  obtain ⟨d, rfl⟩ : ∃ d : Nat, D = d := ⟨D.toNat, by omega⟩
  rw [hI_nat] at hD'
  obtain ⟨b, off, hA, hb0, hc1, -⟩ := hx.atJ d (by omega)
  exact ⟨d, b, off, b', off', by omega, hA, hb0, hA', hb0', hc', by rw [hD']; exact hc1⟩

set_option maxRecDepth 20000 in
set_option maxHeartbeats 2000000 in
theorem ron_any (c : Clb) (A : Option Addr) (len cap : Nat) (l : List J) (A' : Option Addr) (n cap' : Nat) (ds : List Int) (f : Nat) (w : World) (hv : vC c = true) (hm : len ≤ 9223372036854775807) (hm' : n ≤ 100000000) (hx : Rows 2 jointV dJ w w.heap.size A len l) (hy : Ints w w.heap.size A' n ds) (hok : WallOk l ds) (hf : f < n) :
    Calls Try.prog 21 #[climbV c, .slice A len cap, .slice A' n cap', .int .i64 f] w fun e w' => (∃ v, e = .returned v ∧ w'.ownsRow w.heap.size 3 1 v (onI c l ds f n).length (icells (onI c l ds f n))) ∧ Below w.heap.size w w' := by
  have c1 := fun k W (h : Below w.heap.size w W) (hk : k < n) => dog_at ((hx.below h).more h.size) ((hy.below h).more h.size) hok hk
  have hle := (vC_spec hv).2.2.2.1
  have hyl := hy.1
  have hbf := hok.bd f (by rw [hyl]; exact hf)
  obtain ⟨df, b, off, b', off', hdf, rfl, hb0, rfl, hb0', hc1, hc2⟩ := dog_at hx hy hok hf
  obtain ⟨i0, hi, hz0, hz1, hz2⟩ := info_parts info_int
  have hI0 := Lib.hid hi
  have hI1 := Lib.hid hz0
  have hI2 := Lib.hid hz1
  have hI3 := Lib.hid hz2
  have C1 := Lib.hid c1
  have HK := Lib.hid hok
  have HYL := Lib.hid hyl
  have hst := onI_start c l ds f f (Nat.le_refl _)
  have HST := Lib.hid hst
  clear c1 hx hy hok hi hz0 hz1 hz2 hyl hst hv
  have hf1 : (f : Int) < n := by omega
  have hdf1 : (df : Int) < len := by omega
  go_enter Try.func21, Try.ntmps21
  go_wp2
  go_loopw [9, 11] (fun v i wr => OnR (w.alloc (.cells #[.int .i64 c.fi, .int .i64 c.ga, .int .i64 c.to, .int .i64 c.le, .int .i64 c.la, .int .i64 c.st] 23)) f n (onI c l ds f) v i wr) (fun _ i _ => n - (intOf i).toNat)
  case atStart => exact OnR.mk f (Nat.le_refl _) (by omega) rfl (by rw [HST.out]; exact World.ownsRow_nil _ _ _ _) (Below.refl _ _)
  case round =>
    obtain ⟨k, hfk, hk, rfl, hown, hb⟩ := hrel
    have hb3 := hb
    have hs3 := hb.size
    clear hc1 hc2 hdf1 hdf
    have hB_wr : Below w.heap.size w wr := (by repeat (first | exact Below.refl _ _ | assumption | refine Below.setCell ?_ (by first | (simp; done) | (simp; omega) | omega) _ | refine Below.drew ?_ | refine below_drewN ?_ _ | refine Below.alloc ?_ (by first | (simp; done) | (simp; omega) | omega) _ | refine below_alloc ?_ _ | refine below_step ?_ (by assumption))); have hz_wr := hB_wr.size; have hswr0 : w.heap.size < wr.heap.size := Nat.lt_of_lt_of_le (by first | (simp; done) | (simp; omega) | omega) hb.size; have hnwr0 : ¬ w.heap.size = wr.heap.size := (by omega); have hmwr0 : ¬ wr.heap.size = w.heap.size := (by omega); have hlwr0_0 : w.heap.size ≤ wr.heap.size := (by omega); have hlwr0_1 : w.heap.size ≤ wr.heap.size + 1 := (by omega); have hlwr0_2 : w.heap.size ≤ wr.heap.size + 1 + 1 := (by omega); have hkwr0 : wr.cell? ⟨w.heap.size, 0, none⟩ = some (.int .i64 c.fi) := (by rw [hb.cell (p := ⟨w.heap.size, 0, none⟩) (by first | (simp; done) | (simp; omega) | omega)]; first | (go_simp; done) | assumption); have hkwr1 : wr.cell? ⟨w.heap.size, 1, none⟩ = some (.int .i64 c.ga) := (by rw [hb.cell (p := ⟨w.heap.size, 1, none⟩) (by first | (simp; done) | (simp; omega) | omega)]; first | (go_simp; done) | assumption); have hkwr2 : wr.cell? ⟨w.heap.size, 2, none⟩ = some (.int .i64 c.to) := (by rw [hb.cell (p := ⟨w.heap.size, 2, none⟩) (by first | (simp; done) | (simp; omega) | omega)]; first | (go_simp; done) | assumption); have hkwr3 : wr.cell? ⟨w.heap.size, 3, none⟩ = some (.int .i64 c.le) := (by rw [hb.cell (p := ⟨w.heap.size, 3, none⟩) (by first | (simp; done) | (simp; omega) | omega)]; first | (go_simp; done) | assumption); have hkwr4 : wr.cell? ⟨w.heap.size, 4, none⟩ = some (.int .i64 c.la) := (by rw [hb.cell (p := ⟨w.heap.size, 4, none⟩) (by first | (simp; done) | (simp; omega) | omega)]; first | (go_simp; done) | assumption); have hkwr5 : wr.cell? ⟨w.heap.size, 5, none⟩ = some (.int .i64 c.st) := (by rw [hb.cell (p := ⟨w.heap.size, 5, none⟩) (by first | (simp; done) | (simp; omega) | omega)]; first | (go_simp; done) | assumption); clear hb
    obtain ⟨A1, cap1, rfl, hn1, hn2, -, -⟩ := own_ints hown
    have HO := Lib.hid hown
    have hLen := onI_len c l ds f k
    clear hown
    by_cases hkn : k < n
    · have hbk := HK.out.bd k (by rw [HYL.out]; exact hkn)
      have hyes := fun h => onI_yes (c := c) (l := l) (ds := ds) hfk (h : hD l ds k ≤ hD l ds f + c.le)
      have hno := fun h => onI_no (c := c) (l := l) (ds := ds) (f := f) (k := k) h
      obtain ⟨dk, b1, off1, b1', off1', hdk, hA1, hb1, hA1', hb1', hc1, hc2⟩ := C1.out k wr hB_wr hkn
      injection hA1 with hA1
      injection hA1 with e1 e2 _
      injection hA1' with hA1'
      injection hA1' with e3 e4 _
      subst e1 e2 e3 e4
      have hdk1 : (dk : Int) < len := by omega
      have hkn1 : (k : Int) < n := by omega
      have HYS := Lib.hid hyes
      have HNO := Lib.hid hno
      clear hyes hno
      by_cases hle2 : hD l ds k ≤ hD l ds f + c.le
      · have HN := Lib.hid (HYS.out hle2)
        have hdec : decide (hD l ds k ≤ hD l ds f + c.le) = true := decide_eq_true hle2
        clear HYS HNO
        go_wp2
        (refine wp_region_later (by kernel_rfl) (by kernel_rfl) ?_; (repeat (go_big_quiet_step ((fail)))); refine wpQuiet_nil ?_)
        intro w4 hb
        have hb4 := hb3.trans (hb.mono hs3)
        have hs4 := hb4.size
        have HO4 := Lib.hid (own_later HO.out hb)
        clear hb
        go_wp2_with (at_builtin; go_loud (refine wpList_append_own _ rfl (.tmp 40) (.tmp 42) 25 rfl (w.alloc (.cells #[.int .i64 c.fi, .int .i64 c.ga, .int .i64 c.to, .int .i64 c.le, .int .i64 c.la, .int .i64 c.st] 23)).heap.size 3 i0 (.int .i64 0) 1 8 Try.underlying25 hI0.out hI1.out hI2.out hI3.out rfl (by decide) _ _ _ rfl (HO4.out.alloc _) ⟨w4.heap.size, 0, none⟩ 1 1 [.int .i64 (k : Int)] rfl rfl (news1 _ _ _) (one1 _) (by unfold maxLen; omega) (by omega) (by simp at hs4 ⊢; omega) ?_))
        intro v' w7 hown' hgrow _
        have hb7 : Below (w.alloc (.cells #[.int .i64 c.fi, .int .i64 c.ga, .int .i64 c.to, .int .i64 c.le, .int .i64 c.la, .int .i64 c.st] 23)).heap.size (w.alloc (.cells #[.int .i64 c.fi, .int .i64 c.ga, .int .i64 c.to, .int .i64 c.le, .int .i64 c.la, .int .i64 c.st] 23)) w7 := (below_alloc hb4 _).trans (grown_below hgrow (by simp at hs4 ⊢; omega) (fun q hq => (HO4.out.lt q hq).1))
        have HO7 : Hid (w7.ownsRow (w.alloc (.cells #[.int .i64 c.fi, .int .i64 c.ga, .int .i64 c.to, .int .i64 c.le, .int .i64 c.la, .int .i64 c.st] 23)).heap.size 3 1 v' (onI c l ds f k ++ [(k : Int)]).length (icells (onI c l ds f k ++ [(k : Int)]))) := by
          have e : (w.alloc (.cells #[.int .i64 c.fi, .int .i64 c.ga, .int .i64 c.to, .int .i64 c.le, .int .i64 c.la, .int .i64 c.st] 23)).heap.size = w.heap.size + 1 := by simp
          refine Lib.hid ?_
          rw [e, List.length_append, icells_app]; exact hown'
        clear hown' hgrow
        go_wp2
        go_roundw
        case rel => exact OnR.mk (k + 1) (by omega) (by omega) (by go_num) (by rw [HN.out]; exact HO7.out) hb7
        case measure => simp [intOf]; omega
      · have HN := Lib.hid (HNO.out hle2)
        have hdec : decide (hD l ds k ≤ hD l ds f + c.le) = false := decide_eq_false hle2
        clear HYS HNO
        go_wp2
        (refine wp_region_later (by kernel_rfl) (by kernel_rfl) ?_; (repeat (go_big_quiet_step ((fail)))); refine wpQuiet_nil ?_)
        intro w4 hb
        have hb4 := hb3.trans (hb.mono hs3)
        have HO4 := Lib.hid (own_later HO.out hb)
        clear hb
        go_wp2
        go_roundw
        case rel => exact OnR.mk (k + 1) (by omega) (by omega) (by go_num) (by rw [HN.out]; exact HO4.out) hb4
        case measure => simp [intOf]; omega
    · have hkn' : k = n := by omega
      have hO4 : wr.ownsRow w.heap.size 3 1 (.slice A1 (onI c l ds f k).length cap1) (onI c l ds f n).length (icells (onI c l ds f n)) := by
        have h := own_mono HO.out (base' := w.heap.size) (by simp)
        rw [← hkn']; exact h
      have HO4 := Lib.hid hO4
      clear hO4 hkn'
      go_wp2
      go_ret
      exact ⟨⟨_, rfl, HO4.out⟩, hB_wr⟩

/-! ### On -/
end Go.Proofs.Ytgapnhpmgidmhaa
