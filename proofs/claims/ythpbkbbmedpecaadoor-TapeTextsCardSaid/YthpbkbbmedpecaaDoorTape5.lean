/- Tapes: the sums over trees and forests. -/
import Derived.Test.YthpbkbbmedpecaaDoorTape4
import Derived.RangeFuncBox
import Derived.Test.YthpbkbbmedpecaaDoorRound
import Derived.Stop.RegionWithIn
import Derived.BigFrameIn
set_option linter.unusedSimpArgs false
set_option linter.unusedVariables false
namespace Go.Proofs.YthpbkbbmedpecaaDoor
open Go.RowKit Go.Shelf
attribute [local go_sem] Oper.semAt_some Same.cell

def yes (_ : List Int) : Bool := true
def apart (x y : Int) (r : List Int) : Bool := !(at6 r x == at6 r y)
theorem blk_own {β : Type} (B : Nat) (c : Array Value) (t : TypeId) : Own (fun (_ : β) (W : World) => W.heap[B]? = some (.cells c t (0, 0))) := fun s X Y row hs hg hr =>
  (hg.block B (Array.getElem?_eq_some_iff.1 hs).1 (fun e => by obtain ⟨o, ho, hc⟩ := hr B e.symm; rw [hs] at ho; cases ho; simp [Obj.isCells] at hc)).trans hs
theorem arr_of_blk {W : World} {B : Nat} {t : TypeId} {r : List Int} (hr : r.length = 6) (h : W.heap[B]? = some (.cells #[.int .i64 (num r 0), .int .i64 (num r 1), .int .i64 (num r 2), .int .i64 (num r 3), .int .i64 (num r 4), .int .i64 (num r 5)] t (0, 0))) : Arr W B r := by
  refine ⟨(Array.getElem?_eq_some_iff.1 h).1, hr, fun x hx => ?_⟩
  have : x = 0 ∨ x = 1 ∨ x = 2 ∨ x = 3 ∨ x = 4 ∨ x = 5 := by omega
  rcases this with rfl | rfl | rfl | rfl | rfl | rfl <;> simp [World.cell?, World.frozen?, h]
theorem jk_len (l : List Tp) (s k : Nat) : (jk l s k).1.length = 6 := by unfold jk; rw [run_len]; rfl
/-- What a set adds to the two sums. -/
def fT (l : List Tp) (m k : Nat) (s : Nat) : Int := addF yes k l (s % 2 ^ m)
def fU (l : List Tp) (m k : Nat) (x y : Int) (s : Nat) : Int := if k = 0 then 0 else addF (apart x y) (k - 1) l (s % 2 ^ m)
theorem sums_done {l : List Tp} (h : okL l) (hl : l.length ≤ 10) (k : Nat) (x y : Int) :
    sumW (fT l l.length k) (fl l l.length (2 ^ l.length)) = sumL yes k l R0 ∧ sumW (fU l l.length k x y) (fl l l.length (2 ^ l.length)) = if k = 0 then 0 else sumL (apart x y) (k - 1) l R0 := by
  constructor
  · rw [sumW_congr (g := addF yes k l) (fun s hs => by unfold fT; rw [Nat.mod_eq_of_lt (fl_mem hs)])]
    exact sumW_all h hl
  · by_cases hk : k = 0
    · rw [if_pos hk]
      exact sumW_zero (fun s => by unfold fU; rw [if_pos hk]) _
    · rw [if_neg hk, sumW_congr (g := addF (apart x y) (k - 1) l) (fun s hs => by unfold fU; rw [if_neg hk, Nat.mod_eq_of_lt (fl_mem hs)])]
      exact sumW_all h hl
theorem keepsFrom_of_below {B : Nat} {W w1 : World} (h : Below W.heap.size W w1) : KeepsFrom B W w1 :=
  ⟨h.size, fun k o _ hk _ => (h.block k (Array.getElem?_eq_some_iff.1 hk).1).trans hk⟩
theorem boxed_below {W w1 : World} {B : Nat} {t : TypeId} {v : Value} (h : Boxed W B t v) (hb : Below W.heap.size W w1) : Boxed w1 B t v := (hb.block B h.lt).trans h
theorem KeepB.set {n0 b : Nat} {A B : World} (h : KeepB n0 b A B) {p : Addr} (hp : n0 ≤ p.block) (hne : p.block ≠ b) (v : Value) : KeepB n0 b A (B.setCell p v) :=
  ⟨h.1.setCell hp v, (Below.heap_setCell _ _ _ _ (Ne.symm hne)).trans h.2⟩
theorem fT_yes {l : List Tp} {k z : Nat} (hl : l.length ≤ 10) (h : pcf 10 (z % 2 ^ l.length) = k) : fT l l.length k z = wgt l (2 ^ l.length - 1 - z % 2 ^ l.length) := by
  unfold fT addF
  rw [if_pos ⟨by rw [← h, pcf_ten hl (Nat.mod_lt _ (Nat.pow_pos (by decide)))], rfl⟩]
theorem fT_no {l : List Tp} {k z : Nat} (hl : l.length ≤ 10) (h : pcf 10 (z % 2 ^ l.length) ≠ k) : fT l l.length k z = 0 := by
  unfold fT addF
  rw [if_neg (fun hh => h (by rw [← hh.1, pcf_ten hl (Nat.mod_lt _ (Nat.pow_pos (by decide)))]))]
theorem fU_yes {l : List Tp} {k z : Nat} {x y : Int} (hl : l.length ≤ 10) (h : pcf 10 (z % 2 ^ l.length) + 1 = k) (h2 : at6 (jk l (z % 2 ^ l.length) l.length).1 x ≠ at6 (jk l (z % 2 ^ l.length) l.length).1 y) : fU l l.length k x y z = wgt l (2 ^ l.length - 1 - z % 2 ^ l.length) := by
  unfold fU addF apart
  rw [if_neg (by omega), if_pos ⟨by rw [← pcf_ten hl (Nat.mod_lt _ (Nat.pow_pos (by decide)))]; omega, by simpa using h2⟩]
theorem fU_no {l : List Tp} {k z : Nat} {x y : Int} (hl : l.length ≤ 10) (h : ¬ (pcf 10 (z % 2 ^ l.length) + 1 = k ∧ at6 (jk l (z % 2 ^ l.length) l.length).1 x ≠ at6 (jk l (z % 2 ^ l.length) l.length).1 y)) : fU l l.length k x y z = 0 := by
  unfold fU addF apart
  by_cases hk : k = 0
  · rw [if_pos hk]
  · rw [if_neg hk, if_neg (fun hh => h ⟨by rw [← pcf_ten hl (Nat.mod_lt _ (Nat.pow_pos (by decide)))] at hh; omega, by simpa using hh.2⟩)]
set_option maxRecDepth 100000 in
set_option maxHeartbeats 4000000 in
theorem sums_any (A : Option Addr) (len cap : Nat) (l : List Tp) (k : Nat) (x y : Int) (w : World) (hm : len ≤ 10) (hk : k ≤ 6) (hxn : nod x) (hyn : nod y) (hl : okL l) (hX : Rows 3 int3 (0,0,0) w w.heap.size A len l) :
    Calls Tryd.prog 45 #[.slice A len cap, .int .i64 k, .int .i64 x, .int .i64 y] w fun e w' => e = .returned (.tuple #[.int .i64 (sumL yes k l R0), .int .i64 (if k = 0 then 0 else sumL (apart x y) (k - 1) l R0)]) ∧ Below w.heap.size w w' := by
  have hll : l.length = len := hX.1
  have c1 := fun W => whole_any A len cap W hm
  have hpw : 1 ≤ 2 ^ len ∧ 2 ^ len ≤ 1024 := ⟨Nat.pow_pos (by decide), Nat.pow_le_pow_right (by decide) hm⟩
  have hsd := sums_done hl (by omega) k x y
  rw [hll] at hsd
  generalize sumL yes k l R0 = RT at *
  generalize (if k = 0 then 0 else sumL (apart x y) (k - 1) l R0) = RU at *
  have HSD := Lib.hid hsd
  have C1 := Lib.hid c1
  have HX := Lib.hid hX
  have HLL := Lib.hid hll
  clear hsd c1 hX hll
  refine (callsIn_wide (n := 9)).1 ?_
  refine callsIn_of_wp_marks Tryd.func45 rfl trivial ?_ rfl
  simp only [Tryd.ntmps45, List.size_toArray, List.length_cons, List.length_nil, Nat.reduceAdd, Nat.reduceSub, Array.replicate_succ, Array.replicate_zero, List.push_toArray, List.append_toArray, List.nil_append, List.cons_append]
  gi_wp2_with (first | (refine ⟨trivial, ?_⟩; gi_at_call 43; refine (callsIn_wide.2 (C1.out _)).mono ?_; rintro e w' ⟨rfl, rfl⟩) | (refine ⟨trivial, ?_⟩; gi_at_call 28; refine (callsIn_wide.2 (forests_any _ _ _ _ _)).mono ?_; rintro e w' ⟨rfl, rfl⟩))
  obtain ⟨W0, hW0⟩ : ∃ W0, ((((((((w.alloc (.cells #[.slice A len cap] 22)).alloc (.cells #[.int .i64 k] 3)).alloc (.cells #[.int .i64 x] 3)).alloc (.cells #[.int .i64 y] 3)).alloc (.cells #[.int .i64 0] 3)).alloc (.cells #[.int .i64 0] 3)).alloc (.cells #[.int .i64 ((2 ^ len - 1 : Nat) : Int)] 3)).alloc (.cells #[.slice A len cap] 22)) = W0 := ⟨_, rfl⟩
  have hsz : W0.heap.size = w.heap.size + 8 := by rw [← hW0]; simp
  have hB0 : Below w.heap.size w W0 := by rw [← hW0]; exact (by repeat (first | exact Below.refl _ _ | assumption | refine Below.setCell ?_ (by first | (simp; done) | (simp; omega) | omega) _ | refine Below.drew ?_ | refine below_drewN ?_ _ | refine Below.alloc ?_ (by first | (simp; done) | (simp; omega) | omega) _ | refine below_alloc ?_ _ | refine below_step ?_ (by assumption)))
  have b0 : Boxed W0 w.heap.size 22 (.slice A len cap) := by
    rw [← hW0]
    have h := Boxed.new w 22 (.slice A len cap)
    exact (((((((h.alloc _).alloc _).alloc _).alloc _).alloc _).alloc _).alloc _)
  have b1 : Boxed W0 (w.heap.size + 1) 3 (.int .i64 k) := by
    rw [← hW0]
    have h := Boxed.new (w.alloc (.cells #[.slice A len cap] 22)) 3 (.int .i64 k)
    simp only [World.size_alloc] at h
    exact ((((((h.alloc _).alloc _).alloc _).alloc _).alloc _).alloc _)
  have b2 : Boxed W0 (w.heap.size + 1 + 1) 3 (.int .i64 x) := by
    rw [← hW0]
    have h := Boxed.new ((w.alloc (.cells #[.slice A len cap] 22)).alloc (.cells #[.int .i64 k] 3)) 3 (.int .i64 x)
    simp only [World.size_alloc] at h
    exact (((((h.alloc _).alloc _).alloc _).alloc _).alloc _)
  have b3 : Boxed W0 (w.heap.size + 1 + 1 + 1) 3 (.int .i64 y) := by
    rw [← hW0]
    have h := Boxed.new (((w.alloc (.cells #[.slice A len cap] 22)).alloc (.cells #[.int .i64 k] 3)).alloc (.cells #[.int .i64 x] 3)) 3 (.int .i64 y)
    simp only [World.size_alloc] at h
    exact ((((h.alloc _).alloc _).alloc _).alloc _)
  have b4 : Boxed W0 (w.heap.size + 1 + 1 + 1 + 1) 3 (.int .i64 0) := by
    rw [← hW0]
    have h := Boxed.new ((((w.alloc (.cells #[.slice A len cap] 22)).alloc (.cells #[.int .i64 k] 3)).alloc (.cells #[.int .i64 x] 3)).alloc (.cells #[.int .i64 y] 3)) 3 (.int .i64 0)
    simp only [World.size_alloc] at h
    exact (((h.alloc _).alloc _).alloc _)
  have b5 : Boxed W0 (w.heap.size + 1 + 1 + 1 + 1 + 1) 3 (.int .i64 0) := by
    rw [← hW0]
    have h := Boxed.new (((((w.alloc (.cells #[.slice A len cap] 22)).alloc (.cells #[.int .i64 k] 3)).alloc (.cells #[.int .i64 x] 3)).alloc (.cells #[.int .i64 y] 3)).alloc (.cells #[.int .i64 0] 3)) 3 (.int .i64 0)
    simp only [World.size_alloc] at h
    exact ((h.alloc _).alloc _)
  have b6 : Boxed W0 (w.heap.size + 1 + 1 + 1 + 1 + 1 + 1) 3 (.int .i64 ((2 ^ len - 1 : Nat) : Int)) := by
    rw [← hW0]
    have h := Boxed.new ((((((w.alloc (.cells #[.slice A len cap] 22)).alloc (.cells #[.int .i64 k] 3)).alloc (.cells #[.int .i64 x] 3)).alloc (.cells #[.int .i64 y] 3)).alloc (.cells #[.int .i64 0] 3)).alloc (.cells #[.int .i64 0] 3)) 3 (.int .i64 ((2 ^ len - 1 : Nat) : Int))
    simp only [World.size_alloc] at h
    exact (h.alloc _)
  have b7 : Boxed W0 (w.heap.size + 1 + 1 + 1 + 1 + 1 + 1 + 1) 22 (.slice A len cap) := by
    rw [← hW0]
    have h := Boxed.new (((((((w.alloc (.cells #[.slice A len cap] 22)).alloc (.cells #[.int .i64 k] 3)).alloc (.cells #[.int .i64 x] 3)).alloc (.cells #[.int .i64 y] 3)).alloc (.cells #[.int .i64 0] 3)).alloc (.cells #[.int .i64 0] 3)).alloc (.cells #[.int .i64 ((2 ^ len - 1 : Nat) : Int)] 3)) 22 (.slice A len cap)
    simp only [World.size_alloc] at h
    exact h
  rw [hW0]
  clear hW0
  have hc0 := b0.cell
  have hc1 := b1.cell
  have hc2 := b2.cell
  have hc3 := b3.cell
  have hX0 : Rows 3 int3 (0,0,0) W0 w.heap.size A len l := HX.out.below hB0
  have HX0 := Lib.hid hX0
  clear hX0
  refine wpIn_rangeFunc_ownH rfl (by omega) (gf := 47) (lb := #[.pointer (some ⟨w.heap.size + 1 + 1 + 1 + 1 + 1 + 1 + 1, 0, none⟩)]) rfl trivial (enters_of Tryd.func47 (by kernel_rfl) rfl)
    (forests_stops 8 (by omega) (w.heap.size + 1 + 1 + 1 + 1 + 1 + 1 + 1) w.heap.size A len cap l hm hl W0 (by omega) (by omega) b7.cell HX0.out) KeepB.t (KeepB.b (by omega) (by omega)) (Below.refl _ _) (fun _ => rfl)
    (fun pre W => ((Boxed W (w.heap.size + 1 + 1 + 1 + 1) 3 (.int .i64 (sumW (fT l len k) pre)) ∧ Boxed W (w.heap.size + 1 + 1 + 1 + 1 + 1) 3 (.int .i64 (sumW (fU l len k x y) pre))) ∧ Boxed W (w.heap.size + 1 + 1 + 1 + 1 + 1 + 1) 3 (.int .i64 ((2 ^ len - 1 : Nat) : Int))) ∧ Below (w.heap.size + 4) W0 W)
    (fun _ _ _ => False)
    (OwnFrom.and (OwnFrom.and (OwnFrom.and (Own.from (boxed_own _ _ _) _) (Own.from (boxed_own _ _ _) _)) (Own.from (boxed_own _ _ (fun _ => .int .i64 ((2 ^ len - 1 : Nat) : Int))) _)) (ownFrom_below (by omega) (by omega)))
    (fun _ _ _ _ _ hs _ _ => hs)
    ⟨⟨⟨b4, b5⟩, b6⟩, Below.refl _ _⟩
    (fun z a' W => ∃ Bx, w.heap.size + 7 < Bx ∧ W.heap[Bx]? = some (.cells #[.int .i64 (num (jk l (z % 2 ^ len) len).1 0), .int .i64 (num (jk l (z % 2 ^ len) len).1 1), .int .i64 (num (jk l (z % 2 ^ len) len).1 2), .int .i64 (num (jk l (z % 2 ^ len) len).1 3), .int .i64 (num (jk l (z % 2 ^ len) len).1 4), .int .i64 (num (jk l (z % 2 ^ len) len).1 5)] 80 (0, 0)) ∧ a' = { tmps := #[.slice A len cap, .int .i64 k, .int .i64 x, .int .i64 y, .pointer (some ⟨w.heap.size, 0, none⟩), .pointer (some ⟨w.heap.size + 1, 0, none⟩), .pointer (some ⟨w.heap.size + 1 + 1, 0, none⟩), .pointer (some ⟨w.heap.size + 1 + 1 + 1, 0, none⟩), .pointer (some ⟨w.heap.size + 1 + 1 + 1 + 1, 0, none⟩), .pointer (some ⟨w.heap.size + 1 + 1 + 1 + 1 + 1, 0, none⟩), .pointer (some ⟨w.heap.size + 1 + 1 + 1 + 1 + 1 + 1, 0, none⟩), .int .i64 ((z % 2 ^ len : Nat) : Int), .pointer (some ⟨Bx, 0, none⟩), undef, .slice A len cap, .int .i64 ((2 ^ len - 1 : Nat) : Int), .slice A len cap, .func (.func 47) #[] #[.pointer (some ⟨w.heap.size + 1 + 1 + 1 + 1 + 1 + 1 + 1, 0, none⟩)], .int .i64 ((z % 2 ^ len : Nat) : Int), (.agg #[.int .i64 (num (jk l (z % 2 ^ len) len).1 0), .int .i64 (num (jk l (z % 2 ^ len) len).1 1), .int .i64 (num (jk l (z % 2 ^ len) len).1 2), .int .i64 (num (jk l (z % 2 ^ len) len).1 3), .int .i64 (num (jk l (z % 2 ^ len) len).1 4), .int .i64 (num (jk l (z % 2 ^ len) len).1 5)]), undef, undef, undef, undef, undef, undef, undef, undef, undef, undef, undef, undef, undef, undef, undef, undef, undef, undef, undef, undef, undef, undef, undef, undef, undef, undef, undef, undef, undef, undef, undef, undef, undef, undef, undef, undef, undef], defers := [] })
    (fun z a' _ X Y row hs hg hr => by obtain ⟨Bx, h1, h2, h3⟩ := hs; exact ⟨Bx, h1, blk_own (β := Unit) Bx _ _ () X Y row h2 hg (fun r e => (hr r e).2), h3⟩)
    ?assign ?body ?done ?stop
  case assign =>
    rintro yl pre z W K ⟨⟨⟨hT, hU⟩, hN⟩, hB⟩ hK
    have hs1 := hB.size
    unfold encF arrV
    gi_wp2
    refine hK _ _ ((KeepsOthers.alloc _ _).from _) ?_ ⟨⟨⟨hT.alloc _, hU.alloc _⟩, hN.alloc _⟩, hB.alloc (by omega) _⟩ ⟨W.heap.size, by omega, World.alloc_heap_new W _, rfl⟩
    exact KeepB.of_below ((Below.refl _ W).alloc (Nat.le_refl _) _) (by omega) (by omega)
  case body =>
    rintro yl pre z a' W hyl hrl ⟨⟨⟨hT, hU⟩, hN⟩, hB⟩ ⟨Bx, hBx, hblk, rfl⟩ hlt
    have hll := HLL.out
    have hsl : z % 2 ^ len < 2 ^ len := Nat.mod_lt _ (by omega)
    have hT1 := fun h => fT_yes (l := l) (k := k) (z := z) (by omega) h
    have hT0 := fun h => fT_no (l := l) (k := k) (z := z) (by omega) h
    have hU1 := fun h h2 => fU_yes (l := l) (k := k) (z := z) (x := x) (y := y) (by omega) h h2
    have hU0 := fun h => fU_no (l := l) (k := k) (z := z) (x := x) (y := y) (by omega) h
    rw [hll] at hT1 hT0 hU1 hU0
    have hT2 := fun h => sumW_yes (f := fT l len k) (x := z) pre h
    have hT3 := fun h => sumW_no (f := fT l len k) (x := z) pre h
    have hU2 := fun h => sumW_yes (f := fU l len k x y) (x := z) pre h
    have hU3 := fun h => sumW_no (f := fU l len k x y) (x := z) pre h
    have hand := andNot_eq hm hsl
    have hwp := (wgt_bd hl (2 ^ len - 1 - z % 2 ^ len)).1
    have hws : 2 ^ len - 1 - z % 2 ^ len < 1024 := by omega
    have harr := arr_of_blk (jk_len l (z % 2 ^ len) len) hblk
    have hax := (harr.at_ x.toNat (by have := hxn.1; have := hxn.2; omega)).1
    have hay := (harr.at_ y.toNat (by have := hyn.1; have := hyn.2; omega)).1
    rw [num_at6'] at hax hay
    generalize num (jk l (z % 2 ^ len) len).1 0 = x0 at *
    generalize num (jk l (z % 2 ^ len) len).1 1 = x1 at *
    generalize num (jk l (z % 2 ^ len) len).1 2 = x2 at *
    generalize num (jk l (z % 2 ^ len) len).1 3 = x3 at *
    generalize num (jk l (z % 2 ^ len) len).1 4 = x4 at *
    generalize num (jk l (z % 2 ^ len) len).1 5 = x5 at *
    generalize at6 (jk l (z % 2 ^ len) len).1 x = lx at *
    generalize at6 (jk l (z % 2 ^ len) len).1 y = ly at *
    have cO := fun W => ones_any (z % 2 ^ len) W (by omega)
    have cW := fun s W (h1 : s < 1024) (h2 : Below w.heap.size w W) => weight_any A len cap l s W hm h1 ((HX.out.below h2).more h2.size) hl
    have cW2 := fun W (h2 : Below w.heap.size w W) => cW (2 ^ len - 1 - z % 2 ^ len) W hws h2
    generalize wgt l (2 ^ len - 1 - z % 2 ^ len) = G at *
    generalize 2 ^ len - 1 - z % 2 ^ len = s2 at *
    generalize pcf 10 (z % 2 ^ len) = pc at *
    generalize z % 2 ^ len = s at *
    have hW : Below w.heap.size w W := hB0.trans (hB.mono (by omega))
    have g0 := (hB.cell (p := ⟨w.heap.size, 0, none⟩) (show w.heap.size < w.heap.size + 4 by omega)).trans hc0
    have g1 := (hB.cell (p := ⟨w.heap.size + 1, 0, none⟩) (show w.heap.size + 1 < w.heap.size + 4 by omega)).trans hc1
    have g2 := (hB.cell (p := ⟨w.heap.size + 1 + 1, 0, none⟩) (show w.heap.size + 1 + 1 < w.heap.size + 4 by omega)).trans hc2
    have g3 := (hB.cell (p := ⟨w.heap.size + 1 + 1 + 1, 0, none⟩) (show w.heap.size + 1 + 1 + 1 < w.heap.size + 4 by omega)).trans hc3
    have hWs := hB.size
    have q4 := hT.cell
    have q4f := hT.frozen
    have q5 := hU.cell
    have q5f := hU.frozen
    have q6 := hN.cell
    have CO := Lib.hid cO
    have CW := Lib.hid cW2
    generalize sumW (fT l len k) pre = T at *
    generalize sumW (fU l len k x y) pre = U at *
    generalize fT l len k z = ft at *
    generalize fU l len k x y z = fu at *
    clear cO cW cW2 hblk harr hc0 hc1 hc2 hc3 b0 b1 b2 b3 b4 b5 b6 b7 hll hlt
    obtain ⟨hxn0, hxn1⟩ := hxn
    obtain ⟨hyn0, hyn1⟩ := hyn
    by_cases hpk : pc = k
    · have hT4 := hT1 hpk
      have hT5 := hT2 (by omega)
      rw [hT4, show wrap64 (T + G) = IntKind.i64.wrap (T + G) from by unfold wrap64; exact (IntKind.wrap_i64 _).symm] at hT5
      have hU4 := hU3 (hU0 (fun h => by omega))
      have hq : ((pc : Int) == (k : Int)) = true := by simp [hpk]
      have HT5 := Lib.hid hT5
      have HU4 := Lib.hid hU4
      clear hT1 hT0 hU1 hU0 hT2 hT3 hU2 hU3 hT4 hT5 hU4 hpk
      gi_wp2_with (refine ⟨trivial, ?_⟩; gi_at_call 29; refine (CallsIn.inRound yl (callsIn_wide.2 (CO.out _))).mono ?_; rintro e w' ⟨rfl, rfl⟩)
      gi_region_with (refine ⟨trivial, ?_⟩; gi_at_call 61; refine (CallsIn.inRound yl (callsIn_wide.2 (CW.out _ hW.drew))).mono ?_; rintro e w5 ⟨rfl, hb⟩; have hbW : Below W.heap.size W w5 := ((Below.refl _ W).drew).trans (hb.mono (by simp)); have q4' := (hbW.cell (p := ⟨w.heap.size + 1 + 1 + 1 + 1, 0, none⟩) hT.lt).trans q4; have q4f' := (hbW.frozen (p := ⟨w.heap.size + 1 + 1 + 1 + 1, 0, none⟩) hT.lt).trans q4f)
      all_goals
        gi_wp2
        refine ⟨?_, ?_, ⟨⟨⟨?_, ?_⟩, ?_⟩, ?_⟩⟩
        · exact (keepsFrom_of_below hbW).trans ((KeepsOthers.setCell _ _ _).from _)
        · exact (KeepB.of_below hbW (by omega) (by omega)).set (show w.heap.size ≤ w.heap.size + 1 + 1 + 1 + 1 by omega) (show w.heap.size + 1 + 1 + 1 + 1 ≠ w.heap.size + 1 + 1 + 1 + 1 + 1 + 1 + 1 by omega) _
        · rw [HT5.out]; exact (boxed_below hT hbW).set _
        · rw [HU4.out]; exact (boxed_below hU hbW).other (by omega) _
        · exact (boxed_below hN hbW).other (by omega) _
        · exact (hB.trans (hbW.mono (by omega))).setCell (show w.heap.size + 4 ≤ w.heap.size + 1 + 1 + 1 + 1 by omega) _
    · have hwk : IntKind.i64.wrap ((k : Int) - 1) = (k : Int) - 1 := IntWalk.i64_in _ (by omega)
      have hT4 := hT3 (hT0 hpk)
      have hq : ((pc : Int) == (k : Int)) = false := by simp; omega
      have HT4 := Lib.hid hT4
      by_cases hpk2 : pc + 1 = k
      · have hq2 : ((pc : Int) == (k : Int) - 1) = true := by simp; omega
        by_cases hxy : lx = ly
        · have hxy' : (lx != ly) = false := by simp [hxy]
          have HU4 := Lib.hid (hU3 (hU0 (fun h => h.2 hxy)))
          clear hT1 hT0 hU1 hU0 hT2 hT3 hU2 hU3 hT4 hpk hxy hpk2
          gi_wp2_with (refine ⟨trivial, ?_⟩; gi_at_call 29; refine (CallsIn.inRound yl (callsIn_wide.2 (CO.out _))).mono ?_; rintro e w' ⟨rfl, rfl⟩)
          (refine wpIn_round_same (by kernel_rfl) (by kernel_rfl) (by kernel_rfl) ?_; (repeat (go_big_quiet_step ((fail)))); refine wpQuiet_nil ?_)
          all_goals
            gi_wp2
            have hbW : Below W.heap.size W _ := (Below.refl _ W).drew
            refine ⟨keepsFrom_of_below hbW, KeepB.of_below hbW (by omega) (by omega), ⟨⟨⟨?_, ?_⟩, boxed_below hN hbW⟩, hB.trans (hbW.mono (by omega))⟩⟩
            · rw [HT4.out]; exact boxed_below hT hbW
            · rw [HU4.out]; exact boxed_below hU hbW
        · have hxy' : (lx != ly) = true := by simp [hxy]
          have hU4 := hU1 hpk2 hxy
          have hU5 := hU2 (by omega)
          rw [hU4, show wrap64 (U + G) = IntKind.i64.wrap (U + G) from by unfold wrap64; exact (IntKind.wrap_i64 _).symm] at hU5
          have HU5 := Lib.hid hU5
          clear hT1 hT0 hU1 hU0 hT2 hT3 hU2 hU3 hT4 hpk hU4 hU5 hxy hpk2
          gi_wp2_with (refine ⟨trivial, ?_⟩; gi_at_call 29; refine (CallsIn.inRound yl (callsIn_wide.2 (CO.out _))).mono ?_; rintro e w' ⟨rfl, rfl⟩)
          (refine wpIn_round_same (by kernel_rfl) (by kernel_rfl) (by kernel_rfl) ?_; (repeat (go_big_quiet_step ((fail)))); refine wpQuiet_nil ?_)
          all_goals
            gi_wp2
            gi_region_with (refine ⟨trivial, ?_⟩; gi_at_call 61; refine (CallsIn.inRound yl (callsIn_wide.2 (CW.out _ hW.drew.drew))).mono ?_; rintro e w5 ⟨rfl, hb⟩; have hbW : Below W.heap.size W w5 := ((Below.refl _ W).drew.drew).trans (hb.mono (by simp)); have q5' := (hbW.cell (p := ⟨w.heap.size + 1 + 1 + 1 + 1 + 1, 0, none⟩) hU.lt).trans q5; have q5f' := (hbW.frozen (p := ⟨w.heap.size + 1 + 1 + 1 + 1 + 1, 0, none⟩) hU.lt).trans q5f)
            all_goals
              gi_wp2
              refine ⟨?_, ?_, ⟨⟨⟨?_, ?_⟩, ?_⟩, ?_⟩⟩
              · exact (keepsFrom_of_below hbW).trans ((KeepsOthers.setCell _ _ _).from _)
              · exact (KeepB.of_below hbW (by omega) (by omega)).set (show w.heap.size ≤ w.heap.size + 1 + 1 + 1 + 1 + 1 by omega) (show w.heap.size + 1 + 1 + 1 + 1 + 1 ≠ w.heap.size + 1 + 1 + 1 + 1 + 1 + 1 + 1 by omega) _
              · rw [HT4.out]; exact (boxed_below hT hbW).other (by omega) _
              · rw [HU5.out]; exact (boxed_below hU hbW).set _
              · exact (boxed_below hN hbW).other (by omega) _
              · exact (hB.trans (hbW.mono (by omega))).setCell (show w.heap.size + 4 ≤ w.heap.size + 1 + 1 + 1 + 1 + 1 by omega) _
      · have hq2 : ((pc : Int) == (k : Int) - 1) = false := by simp; omega
        have HU4 := Lib.hid (hU3 (hU0 (fun h => hpk2 h.1)))
        clear hT1 hT0 hU1 hU0 hT2 hT3 hU2 hU3 hT4 hpk hpk2
        gi_wp2_with (refine ⟨trivial, ?_⟩; gi_at_call 29; refine (CallsIn.inRound yl (callsIn_wide.2 (CO.out _))).mono ?_; rintro e w' ⟨rfl, rfl⟩)
        (refine wpIn_round_same (by kernel_rfl) (by kernel_rfl) (by kernel_rfl) ?_; (repeat (go_big_quiet_step ((fail)))); refine wpQuiet_nil ?_)
        all_goals
          gi_wp2
          have hbW : Below W.heap.size W _ := (Below.refl _ W).drew
          refine ⟨keepsFrom_of_below hbW, KeepB.of_below hbW (by omega) (by omega), ⟨⟨⟨?_, ?_⟩, boxed_below hN hbW⟩, hB.trans (hbW.mono (by omega))⟩⟩
          · rw [HT4.out]; exact boxed_below hT hbW
          · rw [HU4.out]; exact boxed_below hU hbW
  case done =>
    rintro D ys W hD rfl ⟨⟨⟨hT, hU⟩, hN⟩, hB⟩ hK
    rw [HSD.out.1] at hT
    rw [HSD.out.2] at hU
    have hT1 := hT.cell
    have hT2 := hT.frozen
    have hU1 := hU.cell
    have hU2 := hU.frozen
    gi_wp2
    gi_region_with (fail)
    all_goals
      gi_wp2
      have hK2 : ((W.setCell ⟨w.heap.size + 1 + 1 + 1 + 1, 0, none⟩ (.int .i64 RT)).setCell ⟨w.heap.size + 1 + 1 + 1 + 1 + 1, 0, none⟩ (.int .i64 RU)).drew.heap[D]? = some (.deferred (some [])) := by
        show ((W.setCell ⟨w.heap.size + 1 + 1 + 1 + 1, 0, none⟩ (.int .i64 RT)).setCell ⟨w.heap.size + 1 + 1 + 1 + 1 + 1, 0, none⟩ (.int .i64 RU)).heap[D]? = _
        rw [Below.heap_setCell _ _ _ _ (show D ≠ w.heap.size + 1 + 1 + 1 + 1 + 1 by omega), Below.heap_setCell _ _ _ _ (show D ≠ w.heap.size + 1 + 1 + 1 + 1 by omega)]
        exact hK
      have hX4 : (((W.setCell ⟨w.heap.size + 1 + 1 + 1 + 1, 0, none⟩ (.int .i64 RT)).setCell ⟨w.heap.size + 1 + 1 + 1 + 1 + 1, 0, none⟩ (.int .i64 RU)).drew).cell? ⟨w.heap.size + 1 + 1 + 1 + 1, 0, none⟩ = some (.int .i64 RT) := by simp [go_sem, hT1, hU1]
      have hX5 : (((W.setCell ⟨w.heap.size + 1 + 1 + 1 + 1, 0, none⟩ (.int .i64 RT)).setCell ⟨w.heap.size + 1 + 1 + 1 + 1 + 1, 0, none⟩ (.int .i64 RU)).drew).cell? ⟨w.heap.size + 1 + 1 + 1 + 1 + 1, 0, none⟩ = some (.int .i64 RU) := by simp [go_sem, hT1, hU1]
      have hBX : Below w.heap.size w (((W.setCell ⟨w.heap.size + 1 + 1 + 1 + 1, 0, none⟩ (.int .i64 RT)).setCell ⟨w.heap.size + 1 + 1 + 1 + 1 + 1, 0, none⟩ (.int .i64 RU)).drew) := (((hB0.trans (hB.mono (by omega))).setCell (show w.heap.size ≤ w.heap.size + 1 + 1 + 1 + 1 by omega) _).setCell (show w.heap.size ≤ w.heap.size + 1 + 1 + 1 + 1 + 1 by omega) _).drew
      generalize (((W.setCell ⟨w.heap.size + 1 + 1 + 1 + 1, 0, none⟩ (.int .i64 RT)).setCell ⟨w.heap.size + 1 + 1 + 1 + 1 + 1, 0, none⟩ (.int .i64 RU)).drew) = X at *
      have e4 : (X.putObj D (.deferred none)).cell? ⟨w.heap.size + 1 + 1 + 1 + 1, 0, none⟩ = some (.int .i64 RT) := (World.cell?_of_block (a := ⟨w.heap.size + 1 + 1 + 1 + 1, 0, none⟩) (World.putObj_heap_other (show w.heap.size + 1 + 1 + 1 + 1 ≠ D by omega))).trans hX4
      have e5 : (X.putObj D (.deferred none)).cell? ⟨w.heap.size + 1 + 1 + 1 + 1 + 1, 0, none⟩ = some (.int .i64 RU) := (World.cell?_of_block (a := ⟨w.heap.size + 1 + 1 + 1 + 1 + 1, 0, none⟩) (World.putObj_heap_other (show w.heap.size + 1 + 1 + 1 + 1 + 1 ≠ D by omega))).trans hX5
      refine ⟨by simp, .inl ⟨_, _, rfl, run_takeDeferred hK2, ?_⟩⟩
      refine ⟨.tuple #[.int .i64 RT, .int .i64 RU], by simp [results, Tryd.results45, go_sem, e4, e5], rfl, ?_⟩
      exact hBX.trans (belowK_b (w := W0) (by omega) _ D _ _ hD hK2 rfl rfl)
  case stop =>
    rintro D c pre W _ _ h _
    exact h.elim
end Go.Proofs.YthpbkbbmedpecaaDoor
