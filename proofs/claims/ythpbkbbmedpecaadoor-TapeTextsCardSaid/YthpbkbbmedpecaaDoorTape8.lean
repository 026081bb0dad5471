/- Tapes: how many trees a net has; the chapter's ring. -/
import Derived.Test.YthpbkbbmedpecaaDoorTape7
set_option linter.unusedSimpArgs false
set_option linter.unusedVariables false
namespace Go.Proofs.YthpbkbbmedpecaaDoor
open Go.RowKit Go.Shelf
attribute [local go_sem] Oper.semAt_some Same.cell Later.cell

/-- What a set counts. -/
def fC (n : Int) (m : Nat) (s : Nat) : Int := if (pcf 10 (s % 2 ^ m) : Int) = n - 1 then 1 else 0
def trN (n : Int) (l : List Tp) : Int := sumW (fC n l.length) (fl l l.length (2 ^ l.length))
def trE (n : Int) (l : List Tp) : Int := if vNet n l then 0 else 1
def trV (n : Int) (l : List Tp) : Int := if vNet n l then trN n l else 0
set_option maxRecDepth 100000 in
set_option maxHeartbeats 4000000 in
theorem Trees_ok (n : Int) (A : Option Addr) (len cap : Nat) (l : List Tp) (w : World) (hm : len ≤ 10) (hn : 1 ≤ n ∧ n ≤ 6) (hl : okL l) (hX : Rows 3 int3 (0,0,0) w w.heap.size A len l)
    (c0 : ∀ W, Below w.heap.size w W → Calls Tryd.prog 27 #[.int .i64 n, .slice A len cap, .slice none 0 0] W fun e w' => e = .returned (.int .i64 0) ∧ Below W.heap.size W w') :
    Calls Tryd.prog 12 #[.int .i64 n, .slice A len cap] w fun e w' => e = .returned (.tuple #[.int .i64 (trN n l), .int .i64 0]) ∧ Below w.heap.size w w' := by
  have hll : l.length = len := hX.1
  have hpw : 1 ≤ 2 ^ len ∧ 2 ^ len ≤ 1024 := ⟨Nat.pow_pos (by decide), Nat.pow_le_pow_right (by decide) hm⟩
  have hsd : trN n l = sumW (fC n len) (fl l len (2 ^ len)) := by unfold trN; rw [hll]
  generalize trN n l = RT at *
  have HSD := Lib.hid hsd
  have HX := Lib.hid hX
  have C0 := Lib.hid c0
  clear hsd hX hll c0
  refine (callsIn_wide (n := 9)).1 ?_
  refine callsIn_of_wp_marks Tryd.func12 rfl trivial ?_ rfl
  simp only [Tryd.ntmps12, List.size_toArray, List.length_cons, List.length_nil, Nat.reduceAdd, Nat.reduceSub, Array.replicate_succ, Array.replicate_zero, List.push_toArray, List.append_toArray, List.nil_append, List.cons_append]
  gi_wp2
  refine ⟨trivial, ?_⟩
  refine (callsIn_wide.2 (C0.out _ (by repeat (first | exact Below.refl _ _ | assumption | refine Below.setCell ?_ (by first | (simp; done) | (simp; omega) | omega) _ | refine Below.drew ?_ | refine below_drewN ?_ _ | refine Below.alloc ?_ (by first | (simp; done) | (simp; omega) | omega) _ | refine below_alloc ?_ _ | refine below_step ?_ (by assumption))))).mono ?_
  rintro e w1 ⟨rfl, hb⟩
  have hlt1 : w.heap.size < w1.heap.size := Nat.lt_of_lt_of_le (show w.heap.size < (w.alloc (.cells #[.int .i64 n] 3)).heap.size by simp) hb.size
  have hcn : w1.cell? ⟨w.heap.size, 0, none⟩ = some (.int .i64 n) := by
    rw [hb.cell (p := ⟨w.heap.size, 0, none⟩) (by simp)]
    first | done | go_simp
  have hne1 : ¬ w1.heap.size = w.heap.size := by omega
  have hne2 : ¬ w.heap.size = w1.heap.size := by omega
  gi_wp2_with (refine ⟨trivial, ?_⟩; gi_at_call 28; refine (callsIn_wide.2 (forests_any _ _ _ _ _)).mono ?_; rintro e w' ⟨rfl, rfl⟩)
  obtain ⟨W0, hW0⟩ : ∃ W0, (w1.alloc (.cells #[.int .i64 0] 3)).alloc (.cells #[.slice A len cap] 22) = W0 := ⟨_, rfl⟩
  have hsz : W0.heap.size = w1.heap.size + 2 := by rw [← hW0]; simp
  have hB1 : Below w.heap.size w w1 := ((Below.refl _ _).alloc (Nat.le_refl _) _).trans (hb.mono (by simp))
  have hB0 : Below w.heap.size w W0 := by rw [← hW0]; exact (hB1.alloc (by omega) _).alloc (by simp; omega) _
  have hB01 : Below w1.heap.size w1 W0 := by rw [← hW0]; exact ((Below.refl _ _).alloc (Nat.le_refl _) _).alloc (by simp) _
  have b1 : Boxed W0 w1.heap.size 3 (.int .i64 0) := by rw [← hW0]; exact (Boxed.new w1 3 (.int .i64 0)).alloc _
  have b2 : Boxed W0 (w1.heap.size + 1) 22 (.slice A len cap) := by
    rw [← hW0]
    have h := Boxed.new (w1.alloc (.cells #[.int .i64 0] 3)) 22 (.slice A len cap)
    simp only [World.size_alloc] at h
    exact h
  rw [hW0]
  have hX0 : Rows 3 int3 (0,0,0) W0 w.heap.size A len l := HX.out.below hB0
  have HX0 := Lib.hid hX0
  have hcn0 : W0.cell? ⟨w.heap.size, 0, none⟩ = some (.int .i64 n) := (hB01.cell (p := ⟨w.heap.size, 0, none⟩) hlt1).trans hcn
  clear hX0 hW0 hcn hb
  refine wpIn_rangeFunc_ownH rfl (by omega) (gf := 47) (lb := #[.pointer (some ⟨w1.heap.size + 1, 0, none⟩)]) rfl trivial (enters_of Tryd.func47 (by kernel_rfl) rfl)
    (forests_stops 8 (by omega) (w1.heap.size + 1) w.heap.size A len cap l hm hl W0 (by omega) (by omega) b2.cell HX0.out) KeepB.t (KeepB.b (by omega) (by omega)) (Below.refl _ _) (fun _ => rfl)
    (fun pre W => Boxed W w1.heap.size 3 (.int .i64 (sumW (fC n len) pre)) ∧ Below w1.heap.size W0 W)
    (fun _ _ _ => False)
    (OwnFrom.and (Own.from (boxed_own _ _ _) _) (ownFrom_below (by omega) (by omega)))
    (fun _ _ _ _ _ hs _ _ => hs)
    ⟨b1, Below.refl _ _⟩
    (fun z a' _ => a' = { tmps := #[.int .i64 n, .slice A len cap, .pointer (some ⟨w.heap.size, 0, none⟩), undef, .int .i64 0, .int .i64 0, .int .i64 0, .pointer (some ⟨w1.heap.size, 0, none⟩), (.int .i64 ((z % 2 ^ len : Nat) : Int)), .int .i64 n, .slice A len cap, .int .i64 0, .int .i64 0, .bool false, undef, .int .i64 n, .slice A len cap, .func (.func 47) #[] #[.pointer (some ⟨w1.heap.size + 1, 0, none⟩)], (.int .i64 ((z % 2 ^ len : Nat) : Int)), (.agg #[.int .i64 (num (jk l (z % 2 ^ len) len).1 0), .int .i64 (num (jk l (z % 2 ^ len) len).1 1), .int .i64 (num (jk l (z % 2 ^ len) len).1 2), .int .i64 (num (jk l (z % 2 ^ len) len).1 3), .int .i64 (num (jk l (z % 2 ^ len) len).1 4), .int .i64 (num (jk l (z % 2 ^ len) len).1 5)]), undef, undef, undef, undef, undef, undef, undef, undef, undef], defers := [] })
    (fun _ _ _ _ _ _ hs _ _ => hs)
    ?assign ?body ?done ?stop
  case assign =>
    rintro yl pre z W K ⟨hT, hB⟩ hK
    unfold encF arrV
    gi_wp2
    exact hK _ _ (KeepsFrom.refl _ _) ⟨Below.refl _ _, rfl⟩ ⟨hT, hB⟩ rfl
  case body =>
    rintro yl pre z a' W hyl hrl ⟨hT, hB⟩ rfl hlt
    have hsl : z % 2 ^ len < 2 ^ len := Nat.mod_lt _ (by omega)
    have hT2 := fun h => sumW_yes (f := fC n len) (x := z) pre h
    have hT3 := fun h => sumW_no (f := fC n len) (x := z) pre h
    have hC : fC n len z = if (pcf 10 (z % 2 ^ len) : Int) = n - 1 then 1 else 0 := rfl
    have cO := fun W => ones_any (z % 2 ^ len) W (by omega)
    generalize pcf 10 (z % 2 ^ len) = pc at *
    generalize num (jk l (z % 2 ^ len) len).1 0 = x0 at *
    generalize num (jk l (z % 2 ^ len) len).1 1 = x1 at *
    generalize num (jk l (z % 2 ^ len) len).1 2 = x2 at *
    generalize num (jk l (z % 2 ^ len) len).1 3 = x3 at *
    generalize num (jk l (z % 2 ^ len) len).1 4 = x4 at *
    generalize num (jk l (z % 2 ^ len) len).1 5 = x5 at *
    generalize z % 2 ^ len = s at *
    have hwu : IntKind.u64.wrap (s : Int) = s := by rw [IntKind.wrap_u64]; omega
    have hcw := (hB.cell (p := ⟨w.heap.size, 0, none⟩) hlt1).trans hcn0
    have hWs := hB.size
    have q4 := hT.cell
    have q4f := hT.frozen
    have CO := Lib.hid cO
    have hwn : IntKind.i64.wrap (n - 1) = n - 1 := IntWalk.i64_in _ (by omega)
    by_cases hpn : (pc : Int) = n - 1
    · have hq : ((pc : Int) == n - 1) = true := by simpa using hpn
      rw [if_pos hpn] at hC
      have hT4 := hT2 (by omega)
      rw [hC] at hT4
      have HT4 := Lib.hid hT4
      generalize sumW (fC n len) pre = T at *
      clear hT2 hT3 hC hT4 hpn cO
      gi_wp2
      (refine wpIn_round_same (by kernel_rfl) (by kernel_rfl) (by kernel_rfl) ?_; (repeat (go_big_quiet_step ((go_at_call 29; exact same_same (CO.out _))))); refine wpQuiet_nil ?_)
      gi_wp2
      have hbW : Below W.heap.size W W.drew := (Below.refl _ W).drew
      refine ⟨(keepsFrom_of_below hbW).trans ((KeepsOthers.setCell _ _ _).from _), (KeepB.of_below hbW (by omega) (by omega)).set (show w.heap.size ≤ w1.heap.size by omega) (show w1.heap.size ≠ w1.heap.size + 1 by omega) _, ?_, (hB.trans (hbW.mono (by omega))).setCell (show w1.heap.size ≤ w1.heap.size by omega) _⟩
      rw [HT4.out]
      exact (boxed_below hT hbW).set _
    · have hq : ((pc : Int) == n - 1) = false := by simpa using hpn
      rw [if_neg hpn] at hC
      have HT4 := Lib.hid (hT3 hC)
      clear hT2 hT3 hC hpn cO
      gi_wp2
      (refine wpIn_round_same (by kernel_rfl) (by kernel_rfl) (by kernel_rfl) ?_; (repeat (go_big_quiet_step ((go_at_call 29; exact same_same (CO.out _))))); refine wpQuiet_nil ?_)
      gi_wp2
      have hbW : Below W.heap.size W W.drew := (Below.refl _ W).drew
      refine ⟨keepsFrom_of_below hbW, KeepB.of_below hbW (by omega) (by omega), ?_, hB.trans (hbW.mono (by omega))⟩
      rw [HT4.out]
      exact boxed_below hT hbW
  case done =>
    rintro D ys W hD rfl ⟨hT, hB⟩ hK
    rw [← HSD.out] at hT
    have hT1 := hT.cell
    have hBX : Below w.heap.size w W := hB0.trans (hB.mono (by omega))
    gi_wp2
    refine ⟨by simp, .inl ⟨_, _, rfl, run_takeDeferred hK, ?_⟩⟩
    refine ⟨.tuple #[.int .i64 RT, .int .i64 0], by simp [results, Tryd.results12, go_sem], rfl, ?_⟩
    exact hBX.trans (belowK_b (w := W0) (by omega) _ D _ _ hD hK rfl rfl)
  case stop =>
    rintro D c pre W _ _ h _
    exact h.elim
end Go.Proofs.YthpbkbbmedpecaaDoor
