/- Dogs: the reference's array of needs. -/
import Derived.Test.YtecocbohaggokaaCnt
import Derived.Laws.OwnMore
set_option linter.unusedSimpArgs false
set_option linter.unusedVariables false
namespace Go.Proofs.Ytecocbohaggokaa
open Go.RowKit
attribute [local go_sem] Later.cell

/-- The array when the needs of the joints above i are known, and a stands at i. -/
def arrQ (c : Clb) (l : List J) (i : Int) (a : Int) : List Int := (List.range l.length).map fun k : Nat => if (k : Int) = i then a else if i < k then (need c l k : Int) else 0
theorem arrQ_len (c : Clb) (l : List J) (i a : Int) : (arrQ c l i a).length = l.length := by simp [arrQ]
theorem arrQ_at (c : Clb) (l : List J) (i a : Int) {k : Nat} (h : k < l.length) : (arrQ c l i a)[k]?.getD 0 = if (k : Int) = i then a else if i < k then (need c l k : Int) else 0 := by
  simp [arrQ, List.getElem?_map, List.getElem?_range h]
theorem arrQ_set (c : Clb) (l : List J) (i : Nat) (a v : Int) (h : i < l.length) : (arrQ c l i a).set i v = arrQ c l i v := by
  apply List.ext_getElem (by simp [arrQ])
  intro k h1 h2
  rw [List.getElem_set]
  have hk : k < l.length := by rw [arrQ_len] at h2; exact h2
  simp only [arrQ, List.getElem_map, List.getElem_range]
  by_cases hik : i = k
  · subst hik; simp
  · have e : ¬ ((k : Int) = i) := by omega
    rw [if_neg hik, if_neg e, if_neg e]
theorem arrQ_start (c : Clb) (l : List J) : List.replicate l.length (0 : Int) = arrQ c l ((l.length : Int) - 1) 0 := by
  apply List.ext_getElem (by simp [arrQ])
  intro k h1 h2
  have hk : k < l.length := by simpa using h1
  simp only [arrQ, List.getElem_map, List.getElem_range, List.getElem_replicate]
  by_cases hik : (k : Int) = (l.length : Int) - 1
  · rw [if_pos hik]
  · rw [if_neg hik, if_neg (by omega)]
theorem arrQ_next (c : Clb) (l : List J) (i : Nat) : arrQ c l i (need c l i) = arrQ c l ((i : Int) - 1) 0 := by
  unfold arrQ
  apply List.map_congr_left
  intro k hk
  by_cases h1 : (k : Int) = i
  · have h2 : k = i := by omega
    rw [if_pos h1, if_neg (by omega), if_pos (by omega), h2]
  · rw [if_neg h1]
    by_cases h2 : (i : Int) < k
    · rw [if_pos h2, if_neg (by omega), if_pos (by omega)]
    · rw [if_neg h2]
      by_cases h3 : (k : Int) = (i : Int) - 1
      · rw [if_pos h3]
      · rw [if_neg h3, if_neg (by omega)]
theorem arrQ_done (c : Clb) (l : List J) {k : Nat} (h : k < l.length) : (arrQ c l (-1) 0)[k]?.getD 0 = (need c l k : Int) := by
  rw [arrQ_at c l _ _ h, if_neg (by omega), if_pos (by omega)]
/-- How the need of i stands when the joints below k were looked at. -/
def RcAt (c : Clb) (l : List J) (i k a : Nat) : Prop := MinS (fun q => i < q ∧ q < k ∧ hgt l q - hgt l i ≤ c.ga) (need c l) a
theorem RcAt.zero (c : Clb) (l : List J) (i : Nat) : RcAt c l i (i + 1) 0 := MinS.none fun q hq => by omega
theorem RcAt.skip {c : Clb} {l : List J} {i k a : Nat} (h : RcAt c l i k a) (hn : need c l k = 0) : RcAt c l i (k + 1) a := by
  refine MinS.same h fun q hq => ?_
  constructor
  · intro hh
    have : q ≠ k := fun e => by subst e; omega
    exact ⟨hh.1, by omega, hh.2.2⟩
  · intro hh; exact ⟨hh.1, by omega, hh.2.2⟩
theorem RcAt.iff {c : Clb} {l : List J} {i k : Nat} (hik : i < k) (ha : hgt l k - hgt l i ≤ c.ga) (q : Nat) : (i < q ∧ q < k + 1 ∧ hgt l q - hgt l i ≤ c.ga) ↔ (i < q ∧ q < k ∧ hgt l q - hgt l i ≤ c.ga) ∨ q = k := by
  constructor
  · intro hh
    by_cases e : q = k
    · exact .inr e
    · exact .inl ⟨hh.1, by omega, hh.2.2⟩
  · rintro (hh | rfl)
    · exact ⟨hh.1, by omega, hh.2.2⟩
    · exact ⟨hik, by omega, ha⟩
theorem RcAt.low {c : Clb} {l : List J} {i k a : Nat} (h : RcAt c l i k a) (hik : i < k) (ha : hgt l k - hgt l i ≤ c.ga) (hn : 0 < need c l k) (hl : a = 0 ∨ need c l k + 1 < a) : RcAt c l i (k + 1) (need c l k + 1) := MinS.low h (RcAt.iff hik ha) hn hl
theorem RcAt.stay {c : Clb} {l : List J} {i k a : Nat} (h : RcAt c l i k a) (hik : i < k) (ha : hgt l k - hgt l i ≤ c.ga) (hl : ¬ (a = 0 ∨ need c l k + 1 < a)) : RcAt c l i (k + 1) a := MinS.stay h (RcAt.iff hik ha) (.inr ⟨by omega, by omega⟩)
theorem RcAt.done {c : Clb} {l : List J} {i k a : Nat} (h : RcAt c l i k a) (hi : i < l.length) (hs : sndB l i = true) (hn : ¬ c.to ≤ hgt l i + c.ga) (hk : k ≤ l.length) (hend : ∀ q, k ≤ q → q < l.length → ¬ hgt l q - hgt l i ≤ c.ga) : a = need c l i := by
  refine MinS.unique h (((need_spec c l i hi).2.2 hs hn).same fun q hq => ?_)
  have := need_snd hq
  constructor
  · intro hh; exact ⟨hh.1, by omega, hh.2.2⟩
  · intro hh
    refine ⟨hh.1, ?_, hh.2.2⟩
    rcases Nat.lt_or_ge q k with h1 | h1
    · exact h1
    · exact absurd hh.2.2 (hend q h1 hh.2.1)
theorem RcAt.le {c : Clb} {l : List J} {i k a : Nat} (h : RcAt c l i k a) : a ≤ l.length + 1 := by
  rcases h with ⟨h, _⟩ | ⟨q, _, _, h, _⟩
  · omega
  · have := need_bd c l q; omega
theorem icells_set (xs : List Int) (i : Nat) (v : Int) : (icells xs).set i (.int .i64 v) = icells (xs.set i v) := by simp [icells, List.map_set]

def NOut (c : Clb) (l : List J) (w0 : World) (g : Nat) (x : Value) (wr : World) : Prop :=
  ∃ i : Int, -1 ≤ i ∧ i < l.length ∧ x = .int .i64 i ∧ Hid (wr.ownsRow g 3 1 (.slice (some ⟨g, 0, none⟩) l.length l.length) l.length (icells (arrQ c l i 0))) ∧ w0.grownBy wr (some g)
theorem NOut.mk {c : Clb} {l : List J} {w0 : World} {g : Nat} {x : Value} {wr : World} (i : Int) (h1 : -1 ≤ i) (h2 : i < l.length) (h3 : x = .int .i64 i) (h4 : Hid (wr.ownsRow g 3 1 (.slice (some ⟨g, 0, none⟩) l.length l.length) l.length (icells (arrQ c l i 0)))) (h5 : w0.grownBy wr (some g)) : NOut c l w0 g x wr := ⟨i, h1, h2, h3, h4, h5⟩
def NInn (c : Clb) (l : List J) (w0 : World) (g i : Nat) (x : Value) (wr : World) : Prop :=
  ∃ k a : Nat, i < k ∧ k ≤ l.length ∧ x = .int .i64 k ∧ Hid (RcAt c l i k a) ∧ Hid (wr.ownsRow g 3 1 (.slice (some ⟨g, 0, none⟩) l.length l.length) l.length (icells (arrQ c l i a))) ∧ w0.grownBy wr (some g)
theorem NInn.mk {c : Clb} {l : List J} {w0 : World} {g i : Nat} {x : Value} {wr : World} (k a : Nat) (h1 : i < k) (h2 : k ≤ l.length) (h3 : x = .int .i64 k) (h4 : Hid (RcAt c l i k a)) (h5 : Hid (wr.ownsRow g 3 1 (.slice (some ⟨g, 0, none⟩) l.length l.length) l.length (icells (arrQ c l i a)))) (h6 : w0.grownBy wr (some g)) : NInn c l w0 g i x wr := ⟨k, a, h1, h2, h3, h4, h5, h6⟩
/-- A store into the row. -/
theorem own_store {w : World} {base g n : Nat} {e : TypeId} {xs : List Int} (h : w.ownsRow base e 1 (.slice (some ⟨g, 0, none⟩) n n) n (icells xs)) (i : Nat) (v : Int) : (w.setCell ⟨g, i, none⟩ (.int .i64 v)).ownsRow base e 1 (.slice (some ⟨g, 0, none⟩) n n) n (icells (xs.set i v)) ∧ w.grownBy (w.setCell ⟨g, i, none⟩ (.int .i64 v)) (some g) := by
  have := h.stored i (.int .i64 v)
  rw [icells_set] at this
  exact this

theorem own_at {w : World} {base g n : Nat} {e : TypeId} {xs : List Int} (h : w.ownsRow base e 1 (.slice (some ⟨g, 0, none⟩) n n) n (icells xs)) : g < w.heap.size ∧ (∀ k, k < n → w.cell? ⟨g, k, none⟩ = some (.int .i64 (xs[k]?.getD 0))) ∧ ∀ k, w.frozen? ⟨g, k, none⟩ = false := by
  refine ⟨?_, fun k hk => ?_, fun k => h.frozenAt k⟩
  · rcases h.2 with ⟨h', _⟩ | ⟨g', cap', cur, h', hb, hg, _⟩
    · simp at h'
    · simp only [Value.slice.injEq, Option.some.injEq, Addr.mk.injEq, and_true, true_and] at h'
      obtain ⟨rfl, rfl⟩ := h'
      exact (Array.getElem?_eq_some_iff.1 hg).1
  · obtain ⟨A', cap', hv, _, _, hI, _⟩ := own_ints h
    injection hv with e1 e2 e3
    subst e1
    obtain ⟨b, off, hb, _, hc⟩ := hI.at_ k hk
    injection hb with hb
    injection hb with hb1 hb2 hb3
    subst hb1 hb2
    simpa using hc
set_option maxRecDepth 20000 in
set_option maxHeartbeats 8000000 in
theorem rneed_any (c : Clb) (A : Option Addr) (len cap : Nat) (l : List J) (w : World) (hv1 : vC c = true) (hv2 : vJ l = true) (hx : Rows 2 jointV dJ w w.heap.size A len l) :
    Calls Try.prog 73 #[climbV c, .slice A len cap] w fun e w' => (∃ g, e = .returned (.slice (some ⟨g, 0, none⟩) len len) ∧ Ints w' w'.heap.size (some ⟨g, 0, none⟩) len (arrQ c l (-1) 0)) ∧ Below w.heap.size w w' := by
  have hvc := vC_spec hv1
  have hvj := vJ_spec hv2
  obtain rfl : l.length = len := hx.1
  have hlen2 := hvj.1
  have hga := hvc.2.1
  have hto := hvc.2.2.1
  have HX := Lib.hid hx
  have HVJ := Lib.hid hvj
  obtain ⟨i0, hi, hz0, hz1, hz2⟩ := info_parts info_int
  have hI0 := Lib.hid hi
  have hI1 := Lib.hid hz0
  have hI2 := Lib.hid hz1
  have hI3 := Lib.hid hz2
  clear hi hz0 hz1 hz2 hx hvj hvc hv1 hv2
  go_enter Try.func73, Try.ntmps73
  go_wp2_with (at_make; refine wpList_make_full _ rfl _ _ 25 rfl (w.heap.size + 1) 3 i0 (.int .i64 0) 1 Try.underlying25 hI0.out hI1.out hI2.out _ _ _ _ l.length rfl rfl (by omega) (by omega) (by rw [hI3.out]; omega) (by unfold maxLen; omega) (by simp) ?_; intro w1 hown hgrow; go_frame)
  have hC0 := (climbAt_box w c 23)
  have hown2 : w1.ownsRow (w.heap.size + 1) 3 1 (.slice (some ⟨w.heap.size + 1, 0, none⟩) l.length l.length) l.length (icells (arrQ c l ((l.length : Int) - 1) 0)) := by
    rw [← arrQ_start]
    have h1 : (madeCells (Value.int .i64 0).cells (l.length * 1)).toList = icells (List.replicate l.length 0) := by
      have : (Value.int .i64 0).cells = #[.int .i64 0] := rfl
      rw [this, Nat.mul_one, toList_madeCells_one]; simp [icells]
    rw [h1] at hown
    simpa using hown
  have hg1 : (w.alloc (.cells #[.int .i64 c.fi, .int .i64 c.ga, .int .i64 c.to, .int .i64 c.le, .int .i64 c.la, .int .i64 c.st] 23)).grownBy w1 (some (w.heap.size + 1)) := hgrow.but _
  have hs0 : (w.alloc (.cells #[.int .i64 c.fi, .int .i64 c.ga, .int .i64 c.to, .int .i64 c.le, .int .i64 c.la, .int .i64 c.st] 23)).heap.size = w.heap.size + 1 := by simp
  have hb0 : Below w.heap.size w (w.alloc (.cells #[.int .i64 c.fi, .int .i64 c.ga, .int .i64 c.to, .int .i64 c.le, .int .i64 c.la, .int .i64 c.st] 23)) := (by repeat (first | exact Below.refl _ _ | assumption | refine Below.setCell ?_ (by first | (simp; done) | (simp; omega) | omega) _ | refine Below.drew ?_ | refine below_drewN ?_ _ | refine Below.alloc ?_ (by first | (simp; done) | (simp; omega) | omega) _ | refine below_alloc ?_ _ | refine below_step ?_ (by assumption)))
  rw [hs0]
  generalize hw0 : (w.alloc (.cells #[.int .i64 c.fi, .int .i64 c.ga, .int .i64 c.to, .int .i64 c.le, .int .i64 c.la, .int .i64 c.st] 23)) = w0 at *
  have HW1 := Lib.hid hown2
  have HC := Lib.hid hC0
  have HB0 := Lib.hid hb0
  have HS0 := Lib.hid hs0
  clear hown hown2 hgrow hC0 hw0 hb0 hs0
  go_wp2
  go_loopw [6] (fun x wr => NOut c l w0 (w.heap.size + 1) x wr) (fun x _ => (intOf x + 1).toNat)
  case atStart => exact NOut.mk ((l.length : Int) - 1) (by omega) (by omega) rfl HW1 hg1
  case round =>
    obtain ⟨i, hi1, hi2, rfl, HR, hg⟩ := hrel
    have hBr : Below w.heap.size w wr := HB0.out.trans (grown_below hg (by rw [HS0.out]; omega) (fun k hk => by injection hk; omega))
    obtain ⟨q0, q1, q2, q3, q4, q5⟩ := HC.out.block (hg.block w.heap.size (by rw [HS0.out]; omega) (by simp))
    have hsr := hg.size
    rw [HS0.out] at hsr
    have hwr1 : w.heap.size < wr.heap.size := by omega
    by_cases hge : 0 ≤ i
    · obtain ⟨I, rfl⟩ : ∃ I : Nat, i = (I : Int) := ⟨i.toNat, by omega⟩
      have hIl : I < l.length := by omega
      obtain ⟨b, off, rfl, hb1, hj1, hj2⟩ := (HX.out.below hBr).atJ I hIl
      have hbh := HVJ.out.2.1 I hIl
      obtain ⟨n1, n2, n3⟩ := need_spec c l I hIl
      have hb3 : b < wr.heap.size := by omega
      have hI1 : (I : Int) < l.length := by omega
      have hI2 : ¬ l.length ≤ I := by omega
      cases hs : sndB l I
      · have HRN : Hid (wr.ownsRow (w.heap.size + 1) 3 1 (.slice (some ⟨w.heap.size + 1, 0, none⟩) l.length l.length) l.length (icells (arrQ c l ((I : Int) - 1) 0))) := Lib.hid (by
          have h5 := HR.out
          rw [← arrQ_next, n1 hs]; exact h5)
        rw [hs] at hj2
        clear n1 n2 n3 hs HR
        go_wp2
        go_roundw
        case rel => exact NOut.mk ((I : Int) - 1) (by omega) (by omega) rfl HRN hg
        case measure => first | (simp [intOf]; done) | (simp [intOf]; omega)
      · rw [hs] at hj2
        generalize hX : hgt l I = X at *
        by_cases hla : c.to ≤ X + c.ga
        · have hne := n2 hs hla
          have hla2 : decide (c.to ≤ X + c.ga) = true := decide_eq_true hla
          clear n1 n2 n3
          go_wp2
          (refine wp_region_later (by kernel_rfl) (by kernel_rfl) ?_; (repeat (go_big_quiet_step ((fail)))); refine wpQuiet_nil ?_)
          intro w3 hb
          have hg3 : w0.grownBy w3 (some (w.heap.size + 1)) := hg.andThen (below_grown hb none) (fun j hj => by cases hj)
          have HR3 := Lib.hid (own_later HR.out hb)
          obtain ⟨o1, o2, o3⟩ := own_at HR3.out
          have hcell := o2 I hIl
          have hfro := o3 I
          have hst := own_store HR3.out I 1
          rw [arrQ_set c l I 0 1 hIl] at hst
          have hone : (1 : Int) = (need c l I : Int) := by rw [hne]; rfl
          have HRN : Hid ((w3.setCell ⟨w.heap.size + 1, I, none⟩ (.int .i64 1)).ownsRow (w.heap.size + 1) 3 1 (.slice (some ⟨w.heap.size + 1, 0, none⟩) l.length l.length) l.length (icells (arrQ c l ((I : Int) - 1) 0))) := Lib.hid (by
            have h5 := hst.1
            rw [← arrQ_next, ← hone]; exact h5)
          have hg4 : w0.grownBy (w3.setCell ⟨w.heap.size + 1, I, none⟩ (.int .i64 1)) (some (w.heap.size + 1)) := hg3.andThen hst.2 (fun j hj => by injection hj with hj; right; rw [hj])
          have HG4 := Lib.hid hg4
          clear hst o1 o2 o3 hone hg4 hne hs HR hg hg3 HR3 hb
          go_wp2
          go_roundw
          case rel => exact NOut.mk ((I : Int) - 1) (by omega) (by omega) rfl HRN HG4.out
          case measure => first | (simp [intOf]; done) | (simp [intOf]; omega)
        · have hla2 : decide (c.to ≤ X + c.ga) = false := decide_eq_false hla
          clear n1 n2 n3
          go_wp2
          (refine wp_region_later (by kernel_rfl) (by kernel_rfl) ?_; (repeat (go_big_quiet_step ((fail)))); refine wpQuiet_nil ?_)
          intro w3 hb
          have hg3 : w0.grownBy w3 (some (w.heap.size + 1)) := hg.andThen (below_grown hb none) (fun j hj => by cases hj)
          have HR3 := Lib.hid (own_later HR.out hb)
          have HLA := Lib.hid hla
          clear HR hg hb hBr hj1 hj2 q0 q1 q2 q3 q4 q5 hla hwr1 hb3 hsr
          go_wp2
          go_loopw [7] (fun x wr => NInn c l w0 (w.heap.size + 1) I x wr) (fun x _ => l.length - (intOf x).toNat)
          case atStart => exact NInn.mk (I + 1) 0 (by omega) (by omega) (by go_num) (Lib.hid (RcAt.zero c l I)) HR3 hg3
          case round =>
            obtain ⟨k, a, hik, hkl, rfl, HP, HR, hg⟩ := hrel
            have hBr : Below w.heap.size w wr := HB0.out.trans (grown_below hg (by rw [HS0.out]; omega) (fun k hk => by injection hk; omega))
            obtain ⟨q0, q1, q2, q3, q4, q5⟩ := HC.out.block (hg.block w.heap.size (by rw [HS0.out]; omega) (by simp))
            have hsr := hg.size
            rw [HS0.out] at hsr
            have hwr1 : w.heap.size < wr.heap.size := by omega
            have hab := HP.out.le
            by_cases hlt : k < l.length
            · obtain ⟨b', off', he, _, hj1, hj2⟩ := (HX.out.below hBr).atJ I hIl
              cases he
              obtain ⟨b', off', he, _, hj3, hj4⟩ := (HX.out.below hBr).atJ k hlt
              cases he
              have hbk := HVJ.out.2.1 k hlt
              have hb3 : b < wr.heap.size := by omega
              rw [hX] at hj1
              have hk1 : (k : Int) < l.length := by omega
              have hk2 : ¬ l.length ≤ k := by omega
              by_cases had : hgt l k - X ≤ c.ga
              · have hNb := need_bd c l k
                have hsk := fun h => HP.out.skip (k := k) h
                have hlw := fun h2 h3 => HP.out.low (k := k) hik (by rw [hX]; exact had) h2 h3
                have hst := fun h2 => HP.out.stay (k := k) hik (by rw [hX]; exact had) h2
                have HS1 := Lib.hid hsk
                have HS2 := Lib.hid hlw
                have HS3 := Lib.hid hst
                have hvk := arrQ_at c l (I : Int) (a : Int) hlt
                rw [if_neg (by omega), if_pos (by omega)] at hvk
                have hvi := arrQ_at c l (I : Int) (a : Int) hIl
                rw [if_pos rfl] at hvi
                have had2 : decide (hgt l k - X ≤ c.ga) = true := decide_eq_true had
                generalize hgt l k = XK at *
                clear hsk hlw hst
                go_wp2
                (refine wp_region_later (by kernel_rfl) (by kernel_rfl) ?_; (repeat (go_big_quiet_step ((fail)))); refine wpQuiet_nil ?_)
                intro w4 hb
                have hg4 : w0.grownBy w4 (some (w.heap.size + 1)) := hg.andThen (below_grown hb none) (fun j hj => by cases hj)
                have HR4 := Lib.hid (own_later HR.out hb)
                have hs4 := hb.size
                have HG4 := Lib.hid hg4
                obtain ⟨o1, o2, o3⟩ := own_at HR4.out
                have hck := o2 k hlt
                have hci := o2 I hIl
                rw [hvk] at hck
                rw [hvi] at hci
                have hwr4 : w.heap.size + 1 < w4.heap.size := o1
                generalize need c l k = N at *
                clear o1 o2 o3 hvk hvi HR hg hg4 hb hBr hj1 hj2 hj3 hj4 q0 q1 q2 q3 q4 q5 HP
                by_cases hN0 : N = 0
                · have h4 := Lib.hid (HS1.out hN0)
                  have hN1 : decide (0 < (N : Int)) = false := decide_eq_false (by omega)
                  have hN2 : decide (0 < N) = false := decide_eq_false (by omega)
                  go_wp2
                  (refine wp_region_later (by kernel_rfl) (by kernel_rfl) ?_; (repeat (go_big_quiet_step ((fail)))); refine wpQuiet_nil ?_)
                  intro w5 hb
                  have hg5 : w0.grownBy w5 (some (w.heap.size + 1)) := HG4.out.andThen (below_grown hb none) (fun j hj => by cases hj)
                  have HR5 := Lib.hid (own_later HR4.out hb)
                  go_wp2
                  go_roundw
                  case rel => exact NInn.mk (k + 1) a (by omega) (by omega) (by go_num) h4 HR5 hg5
                  case measure => first | (simp [intOf]; done) | (simp [intOf]; omega)
                · have hN1 : decide (0 < (N : Int)) = true := decide_eq_true (by omega)
                  have hN2 : decide (0 < N) = true := decide_eq_true (by omega)
                  by_cases hlo : a = 0 ∨ N + 1 < a
                  · have h4 := Lib.hid (HS2.out (by omega) (by omega))
                    rcases Nat.eq_zero_or_pos a with rfl | ha0
                    · have haz : (((0 : Nat) : Int) == 0) = true := rfl
                      go_wp2
                      (refine wp_region_later (by kernel_rfl) (by kernel_rfl) ?_; (repeat (go_big_quiet_step ((fail)))); refine wpQuiet_nil ?_)
                      intro w5 hb
                      have hg5 : w0.grownBy w5 (some (w.heap.size + 1)) := HG4.out.andThen (below_grown hb none) (fun j hj => by cases hj)
                      have HR5 := Lib.hid (own_later HR4.out hb)
                      have hck5 : w5.cell? ⟨w.heap.size + 1, k, none⟩ = some (.int .i64 (N : Int)) := (hb.cell (p := ⟨w.heap.size + 1, k, none⟩) hwr4).trans hck
                      obtain ⟨o1, o2, o3⟩ := own_at HR5.out
                      have hci5 := o2 I hIl
                      have hfro := o3 I
                      have hst := own_store HR5.out I ((N : Int) + 1)
                      rw [arrQ_set c l I _ _ hIl] at hst
                      have HRN := Lib.hid hst.1
                      have hg6 := hg5.andThen hst.2 (fun j hj => by injection hj with hj; right; rw [hj])
                      have HG6 := Lib.hid hg6
                      have hcast : Hid (((N + 1 : Nat) : Int) = (N : Int) + 1) := Lib.hid (by omega)
                      clear hst o1 o2 o3 hg6 hg5 hb
                      go_wp2
                      go_roundw
                      case rel => exact NInn.mk (k + 1) (N + 1) (by omega) (by omega) (by go_num) h4 (by rw [hcast.out]; exact HRN) HG6.out
                      case measure => first | (simp [intOf]; done) | (simp [intOf]; omega)
                    · have haz : ((a : Int) == 0) = false := beq_eq_false_iff_ne.2 (by omega)
                      go_wp2
                      (refine wp_region_later (by kernel_rfl) (by kernel_rfl) ?_; (repeat (go_big_quiet_step ((fail)))); refine wpQuiet_nil ?_)
                      intro w5 hb
                      have hg5 : w0.grownBy w5 (some (w.heap.size + 1)) := HG4.out.andThen (below_grown hb none) (fun j hj => by cases hj)
                      have HR5 := Lib.hid (own_later HR4.out hb)
                      have hck5 : w5.cell? ⟨w.heap.size + 1, k, none⟩ = some (.int .i64 (N : Int)) := (hb.cell (p := ⟨w.heap.size + 1, k, none⟩) hwr4).trans hck
                      obtain ⟨o1, o2, o3⟩ := own_at HR5.out
                      have hci5 := o2 I hIl
                      have hfro := o3 I
                      have hst := own_store HR5.out I ((N : Int) + 1)
                      rw [arrQ_set c l I _ _ hIl] at hst
                      have HRN := Lib.hid hst.1
                      have hg6 := hg5.andThen hst.2 (fun j hj => by injection hj with hj; right; rw [hj])
                      have HG6 := Lib.hid hg6
                      have hcast : Hid (((N + 1 : Nat) : Int) = (N : Int) + 1) := Lib.hid (by omega)
                      clear hst o1 o2 o3 hg6 hg5 hb
                      go_wp2
                      go_roundw
                      case rel => exact NInn.mk (k + 1) (N + 1) (by omega) (by omega) (by go_num) h4 (by rw [hcast.out]; exact HRN) HG6.out
                      case measure => first | (simp [intOf]; done) | (simp [intOf]; omega)
                  · have h4 := Lib.hid (HS3.out (by omega))
                    have haz : ((a : Int) == 0) = false := by simp; omega
                    have hl3 : decide ((N : Int) + 1 < a) = false := decide_eq_false (by omega)
                    have hl4 : decide (N + 1 < a) = false := decide_eq_false (by omega)
                    go_wp2
                    (refine wp_region_later (by kernel_rfl) (by kernel_rfl) ?_; (repeat (go_big_quiet_step ((fail)))); refine wpQuiet_nil ?_)
                    intro w5 hb
                    have hg5 : w0.grownBy w5 (some (w.heap.size + 1)) := HG4.out.andThen (below_grown hb none) (fun j hj => by cases hj)
                    have HR5 := Lib.hid (own_later HR4.out hb)
                    go_wp2
                    go_roundw
                    case rel => exact NInn.mk (k + 1) a (by omega) (by omega) (by go_num) h4 HR5 hg5
                    case measure => first | (simp [intOf]; done) | (simp [intOf]; omega)
              · have hdone := HP.out.done hIl hs (by rw [hX]; have := HLA.out; omega) hkl (fun q h1 h2 h3 => by
                  have h5 : hgt l k ≤ hgt l q := by
                    by_cases e : q = k
                    · subst e; omega
                    · have := HVJ.out.2.2 k q (by omega) h2; omega
                  rw [hX] at h3; omega)
                have HRN : Hid (wr.ownsRow (w.heap.size + 1) 3 1 (.slice (some ⟨w.heap.size + 1, 0, none⟩) l.length l.length) l.length (icells (arrQ c l ((I : Int) - 1) 0))) := Lib.hid (by
                  have h5 := HR.out
                  rw [hdone, arrQ_next] at h5; exact h5)
                have had2 : decide (hgt l k - X ≤ c.ga) = false := decide_eq_false had
                have HG := Lib.hid hg
                generalize hgt l k = XK at *
                clear hdone HR HP hg hBr
                go_wp2
                (refine wp_region_later (by kernel_rfl) (by kernel_rfl) ?_; (repeat (go_big_quiet_step ((fail)))); refine wpQuiet_nil ?_)
                intro w4 hb
                have hg4 : w0.grownBy w4 (some (w.heap.size + 1)) := HG.out.andThen (below_grown hb none) (fun j hj => by cases hj)
                have HR4 := Lib.hid (own_later HRN.out hb)
                go_wp2
                go_roundw
                case rel => exact NOut.mk ((I : Int) - 1) (by omega) (by omega) rfl HR4 hg4
                case measure => first | (simp [intOf]; done) | (simp [intOf]; omega)
            · have hdone := HP.out.done hIl hs (by rw [hX]; have := HLA.out; omega) hkl (fun q h1 h2 => by omega)
              have HRN : Hid (wr.ownsRow (w.heap.size + 1) 3 1 (.slice (some ⟨w.heap.size + 1, 0, none⟩) l.length l.length) l.length (icells (arrQ c l ((I : Int) - 1) 0))) := Lib.hid (by
                have h5 := HR.out
                rw [hdone, arrQ_next] at h5; exact h5)
              have hlt2 : decide ((k : Int) < l.length) = false := decide_eq_false (by omega)
              have hlt3 : decide (k < l.length) = false := decide_eq_false (by omega)
              have HG := Lib.hid hg
              clear hdone HR HP hg hBr
              go_wp2
              (refine wp_region_later (by kernel_rfl) (by kernel_rfl) ?_; (repeat (go_big_quiet_step ((fail)))); refine wpQuiet_nil ?_)
              intro w4 hb
              have hg4 : w0.grownBy w4 (some (w.heap.size + 1)) := HG.out.andThen (below_grown hb none) (fun j hj => by cases hj)
              have HR4 := Lib.hid (own_later HRN.out hb)
              go_wp2
              go_roundw
              case rel => exact NOut.mk ((I : Int) - 1) (by omega) (by omega) rfl HR4 hg4
              case measure => first | (simp [intOf]; done) | (simp [intOf]; omega)
    · have hi0 : i = -1 := by omega
      have hfin : Hid (Ints wr wr.heap.size (some ⟨w.heap.size + 1, 0, none⟩) l.length (arrQ c l (-1) 0)) := Lib.hid (by
        have h5 := HR.out
        rw [hi0] at h5
        obtain ⟨A', cap', hv, _, _, hI, _⟩ := own_ints h5
        injection hv with e1 e2 e3
        rw [← e1] at hI; exact hI)
      clear HR hi0 hg
      go_wp2
      go_ret
      exact ⟨⟨_, rfl, hfin.out⟩, hBr⟩
end Go.Proofs.Ytecocbohaggokaa
