/- Ladders: the program's Ladders and the reference's, as a whole. -/
import Derived.Test.YtgapnhpmgidmhaaLadP
import Derived.Test.YtgapnhpmgidmhaaRLad
set_option linter.unusedSimpArgs false
set_option linter.unusedVariables false
namespace Go.Proofs.Ytgapnhpmgidmhaa
open Go.RowKit

theorem lad_few {c : Clb} {l : List J} {ds : List Int} {w : World} {base : Nat} {v : Value} (hr : rightB c l ds = true) (h : FewV w base v (ladO c l ds)) : w.ownsRow base 3 1 v (ladV c l ds).length (icells (ladV c l ds)) := by
  unfold ladV
  rw [if_pos hr]
  rcases h with ⟨h1, rfl⟩ | ⟨xs, h1, -, h2⟩
  · rw [h1]; exact World.ownsRow_nil _ _ _ _
  · rw [h1]; exact h2
theorem ladE_ok {c : Clb} {l : List J} {ds : List Int} (hr : rightB c l ds = true) : ladE c l ds = (if (ladO c l ds).isSome then 0 else 8) := by
  unfold ladE
  rw [right_valid hr, if_pos rfl, if_pos hr]
theorem ladE_state {c : Clb} {l : List J} {ds : List Int} (hv : (vC c && vJ l) = true) (hr : rightB c l ds = false) : ladE c l ds = 10 ∧ ladV c l ds = [] := by
  unfold ladE ladV
  rw [hv, hr]; exact ⟨rfl, rfl⟩
theorem ladE_bad {c : Clb} {l : List J} {ds : List Int} (hv : (vC c && vJ l) = false) : ladE c l ds = 1 ∧ ladV c l ds = [] := by
  have hr : rightB c l ds = false := by
    cases h : rightB c l ds
    · rfl
    · rw [right_valid h] at hv; cases hv
  unfold ladE ladV
  rw [hv, hr]; exact ⟨rfl, rfl⟩
set_option maxRecDepth 20000 in
set_option maxHeartbeats 8000000 in
theorem rladders_any (c : Clb) (A : Option Addr) (len cap : Nat) (l : List J) (A' : Option Addr) (n cap' : Nat) (ds : List Int) (w : World) (hm : len ≤ 9223372036854775807) (hm' : n ≤ 80) (hx : Rows 2 jointV dJ w w.heap.size A len l) (hy : Ints w w.heap.size A' n ds) :
    Calls Try.prog 8 #[climbV c, .slice A len cap, .slice A' n cap'] w fun e w' => (∃ v, e = .returned (.tuple #[v, .int .i64 (ladE c l ds)]) ∧ w'.ownsRow w.heap.size 3 1 v (ladV c l ds).length (icells (ladV c l ds))) ∧ Below w.heap.size w w' := by
  have c1 := fun W (h : Below w.heap.size w W) => bad_any c A len cap l W hm ((hx.below h).more h.size)
  have c2 := fun W (h : Below w.heap.size w W) => rRight_any c A len cap l A' n cap' ds W hm (by omega) ((hx.below h).more h.size) ((hy.below h).more h.size)
  cases hv : (vC c && vJ l)
  · obtain ⟨e1, e2⟩ := ladE_bad (ds := ds) hv
    rw [hv] at c1
    rw [e1, e2]
    have C1 := Lib.hid c1
    clear c1 c2 hx hy hv e1 e2
    go_enter Try.func8, Try.ntmps8
    go_wp2_with fail
    refine (C1.out _ (by repeat (first | exact Below.refl _ _ | assumption | refine Below.setCell ?_ (by first | (simp; done) | (simp; omega) | omega) _ | refine Below.drew ?_ | refine below_drewN ?_ _ | refine Below.alloc ?_ (by first | (simp; done) | (simp; omega) | omega) _ | refine below_alloc ?_ _ | refine below_step ?_ (by assumption)))).mono ?_
    rintro e w1 ⟨rfl, hb⟩
    have hB_w1 : Below w.heap.size w w1 := (by repeat (first | exact Below.refl _ _ | assumption | refine Below.setCell ?_ (by first | (simp; done) | (simp; omega) | omega) _ | refine Below.drew ?_ | refine below_drewN ?_ _ | refine Below.alloc ?_ (by first | (simp; done) | (simp; omega) | omega) _ | refine below_alloc ?_ _ | refine below_step ?_ (by assumption))); have hz_w1 := hB_w1.size; clear hb
    go_wp2
    go_ret2
    exact ⟨⟨_, rfl, World.ownsRow_nil _ _ _ _⟩, (by repeat (first | exact Below.refl _ _ | assumption | refine Below.setCell ?_ (by first | (simp; done) | (simp; omega) | omega) _ | refine Below.drew ?_ | refine below_drewN ?_ _ | refine Below.alloc ?_ (by first | (simp; done) | (simp; omega) | omega) _ | refine below_alloc ?_ _ | refine below_step ?_ (by assumption)))⟩
  · cases hr : rightB c l ds
    · obtain ⟨e1, e2⟩ := ladE_state hv hr
      rw [hv] at c1
      rw [hr] at c2
      rw [e1, e2]
      have C1 := Lib.hid c1
      have C2 := Lib.hid c2
      clear c1 c2 hx hy hv hr e1 e2
      go_enter Try.func8, Try.ntmps8
      go_wp2_with fail
      have hC0 := climbAt_box w c 23
      refine (C1.out _ (by repeat (first | exact Below.refl _ _ | assumption | refine Below.setCell ?_ (by first | (simp; done) | (simp; omega) | omega) _ | refine Below.drew ?_ | refine below_drewN ?_ _ | refine Below.alloc ?_ (by first | (simp; done) | (simp; omega) | omega) _ | refine below_alloc ?_ _ | refine below_step ?_ (by assumption)))).mono ?_
      rintro e w1 ⟨rfl, hb⟩
      obtain ⟨q0, q1, q2, q3, q4, q5⟩ := hC0.block (hb.block w.heap.size (by simp))
      have hB_w1 : Below w.heap.size w w1 := (by repeat (first | exact Below.refl _ _ | assumption | refine Below.setCell ?_ (by first | (simp; done) | (simp; omega) | omega) _ | refine Below.drew ?_ | refine below_drewN ?_ _ | refine Below.alloc ?_ (by first | (simp; done) | (simp; omega) | omega) _ | refine below_alloc ?_ _ | refine below_step ?_ (by assumption))); have hz_w1 := hB_w1.size; clear hb
      go_wp2_with fail
      refine (C2.out _ (by repeat (first | exact Below.refl _ _ | assumption | refine Below.setCell ?_ (by first | (simp; done) | (simp; omega) | omega) _ | refine Below.drew ?_ | refine below_drewN ?_ _ | refine Below.alloc ?_ (by first | (simp; done) | (simp; omega) | omega) _ | refine below_alloc ?_ _ | refine below_step ?_ (by assumption)))).mono ?_
      rintro e w2 ⟨rfl, hb⟩
      have hB_w2 : Below w.heap.size w w2 := (by repeat (first | exact Below.refl _ _ | assumption | refine Below.setCell ?_ (by first | (simp; done) | (simp; omega) | omega) _ | refine Below.drew ?_ | refine below_drewN ?_ _ | refine Below.alloc ?_ (by first | (simp; done) | (simp; omega) | omega) _ | refine below_alloc ?_ _ | refine below_step ?_ (by assumption))); have hz_w2 := hB_w2.size; clear hb
      go_wp2
      go_ret2
      exact ⟨⟨_, rfl, World.ownsRow_nil _ _ _ _⟩, (by repeat (first | exact Below.refl _ _ | assumption | refine Below.setCell ?_ (by first | (simp; done) | (simp; omega) | omega) _ | refine Below.drew ?_ | refine below_drewN ?_ _ | refine Below.alloc ?_ (by first | (simp; done) | (simp; omega) | omega) _ | refine below_alloc ?_ _ | refine below_step ?_ (by assumption)))⟩
    · rw [ladE_ok hr]
      exact (rladders_ok c A len cap l A' n cap' ds w hv hr hm hm' hx hy).mono fun e w' ⟨⟨v, h1, h2⟩, h3⟩ => ⟨⟨v, h1, lad_few hr h2⟩, h3⟩
set_option maxRecDepth 20000 in
set_option maxHeartbeats 8000000 in
theorem ladders_any (c : Clb) (A : Option Addr) (len cap : Nat) (l : List J) (A' : Option Addr) (n cap' : Nat) (ds : List Int) (w : World) (hm : len ≤ 9223372036854775807) (hm' : n ≤ 80) (hx : Rows 2 jointV dJ w w.heap.size A len l) (hy : Ints w w.heap.size A' n ds) :
    Calls Try.prog 7 #[climbV c, .slice A len cap, .slice A' n cap'] w fun e w' => (∃ v, e = .returned (.tuple #[v, .int .i64 (ladE c l ds)]) ∧ w'.ownsRow w.heap.size 3 1 v (ladV c l ds).length (icells (ladV c l ds))) ∧ Below w.heap.size w w' := by
  have c1 := fun W (h : Below w.heap.size w W) => valid_any c A len cap l W hm ((hx.below h).more h.size)
  have c2 := fun W (h : Below w.heap.size w W) => Right_any c A len cap l A' n cap' ds W hm (by omega) ((hx.below h).more h.size) ((hy.below h).more h.size)
  have hC0 := climbAt_box w c 23
  obtain ⟨W0, hW0⟩ : ∃ W0, W0 = ((w.alloc (.cells #[.int .i64 c.fi, .int .i64 c.ga, .int .i64 c.to, .int .i64 c.le, .int .i64 c.la, .int .i64 c.st] 23)).alloc (.cells #[.slice none 0 0] 25)).alloc (.cells #[.int .i64 0] 31) := ⟨_, rfl⟩
  have hB0 : Below w.heap.size w W0 := by rw [hW0]; exact (((Below.refl _ w).alloc (Nat.le_refl _) _).alloc (by simp) _).alloc (by simp; omega) _
  have hs0 : W0.heap.size = w.heap.size + 1 + 1 + 1 := by rw [hW0]; simp
  have hC1 : ClimbAt W0 w.heap.size c := by rw [hW0]; exact hC0.block ((((Below.refl _ _).alloc (Nat.le_refl _) _).alloc (by simp) _).block w.heap.size (by simp))
  have h6 : Boxed W0 (w.heap.size + 1) 25 (.slice none 0 0) := by
    have := (Boxed.new (w.alloc (.cells #[.int .i64 c.fi, .int .i64 c.ga, .int .i64 c.to, .int .i64 c.le, .int .i64 c.la, .int .i64 c.st] 23)) 25 (.slice none 0 0)).alloc (.cells #[.int .i64 0] 31)
    rw [World.size_alloc] at this; rw [hW0]; exact this
  have h7 : Boxed W0 (w.heap.size + 1 + 1) 31 (.int .i64 0) := by
    have := Boxed.new ((w.alloc (.cells #[.int .i64 c.fi, .int .i64 c.ga, .int .i64 c.to, .int .i64 c.le, .int .i64 c.la, .int .i64 c.st] 23)).alloc (.cells #[.slice none 0 0] 25)) 31 (.int .i64 0)
    rw [World.size_alloc, World.size_alloc] at this; rw [hW0]; exact this
  clear hC0
  cases hv : (vC c && vJ l)
  · obtain ⟨e1, e2⟩ := ladE_bad (ds := ds) hv
    rw [hv] at c1
    rw [e1, e2]
    have C1 := Lib.hid c1
    clear c1 c2 hx hy hv e1 e2
    go_enter Try.func7, Try.ntmps7
    go_wp2_with fail
    rw [← hW0]
    clear hW0
    refine (C1.out _ hB0).mono ?_
    rintro e w1 ⟨rfl, hb⟩
    have hB1 := hB0.trans (hb.mono hB0.size)
    replace h6 : Boxed w1 (w.heap.size + 1) 25 (.slice none 0 0) := (hb.block _ (by omega)).trans h6
    replace h7 : Boxed w1 (w.heap.size + 1 + 1) 31 (.int .i64 0) := (hb.block _ (by omega)).trans h7
    have hc6 := h6.cell
    have hc7 := h7.cell
    have hf6 := h6.frozen
    have hf7 := h7.frozen
    clear hb hC1
    go_wp2
    have hx6 := ((h6.set (.slice none 0 0)).other (B' := w.heap.size + 1 + 1) (by omega) (.int .i64 1)).cell
    have hx7 := ((h7.other (B' := w.heap.size + 1) (by omega) (.slice none 0 0)).set (.int .i64 1)).cell
    (try simp only [Exit.inBlock, Exit.then])
    refine bodyPost_ret (v := .tuple #[.slice none 0 0, .int .i64 1]) (by simp [results, Try.results7, go_sem, hx6, hx7]) rfl ?_
    exact ⟨⟨_, rfl, World.ownsRow_nil _ _ _ _⟩, (hB1.setCell (p := ⟨w.heap.size + 1, 0, none⟩) (by show w.heap.size ≤ w.heap.size + 1; omega) _).setCell (p := ⟨w.heap.size + 1 + 1, 0, none⟩) (by show w.heap.size ≤ w.heap.size + 1 + 1; omega) _⟩
  · cases hr : rightB c l ds
    · obtain ⟨e1, e2⟩ := ladE_state hv hr
      rw [hv] at c1
      rw [hr] at c2
      rw [e1, e2]
      have C1 := Lib.hid c1
      have C2 := Lib.hid c2
      clear c1 c2 hx hy hv hr e1 e2
      go_enter Try.func7, Try.ntmps7
      go_wp2_with fail
      rw [← hW0]
      clear hW0
      refine (C1.out _ hB0).mono ?_
      rintro e w1 ⟨rfl, hb⟩
      have hB1 := hB0.trans (hb.mono hB0.size)
      have hs1 := hb.size
      replace h6 : Boxed w1 (w.heap.size + 1) 25 (.slice none 0 0) := (hb.block _ (by omega)).trans h6
      replace h7 : Boxed w1 (w.heap.size + 1 + 1) 31 (.int .i64 0) := (hb.block _ (by omega)).trans h7
      obtain ⟨q0, q1, q2, q3, q4, q5⟩ := hC1.block (hb.block w.heap.size (by omega))
      clear hb hC1 hB0
      go_wp2_with fail
      refine (C2.out _ hB1).mono ?_
      rintro e w2 ⟨rfl, hb⟩
      have hB2 := hB1.trans (hb.mono hB1.size)
      replace h6 : Boxed w2 (w.heap.size + 1) 25 (.slice none 0 0) := (hb.block _ (by omega)).trans h6
      replace h7 : Boxed w2 (w.heap.size + 1 + 1) 31 (.int .i64 0) := (hb.block _ (by omega)).trans h7
      have hc6 := h6.cell
      have hc7 := h7.cell
      have hf6 := h6.frozen
      have hf7 := h7.frozen
      clear hb hB1 q0 q1 q2 q3 q4 q5
      go_wp2
      have hx6 := ((h6.set (.slice none 0 0)).other (B' := w.heap.size + 1 + 1) (by omega) (.int .i64 10)).cell
      have hx7 := ((h7.other (B' := w.heap.size + 1) (by omega) (.slice none 0 0)).set (.int .i64 10)).cell
      (try simp only [Exit.inBlock, Exit.then])
      refine bodyPost_ret (v := .tuple #[.slice none 0 0, .int .i64 10]) (by simp [results, Try.results7, go_sem, hx6, hx7]) rfl ?_
      exact ⟨⟨_, rfl, World.ownsRow_nil _ _ _ _⟩, (hB2.setCell (p := ⟨w.heap.size + 1, 0, none⟩) (by show w.heap.size ≤ w.heap.size + 1; omega) _).setCell (p := ⟨w.heap.size + 1 + 1, 0, none⟩) (by show w.heap.size ≤ w.heap.size + 1 + 1; omega) _⟩
    · rw [ladE_ok hr]
      exact (ladders_ok c A len cap l A' n cap' ds w hr hm hm' hx hy).mono fun e w' ⟨⟨v, h1, h2⟩, h3⟩ => ⟨⟨v, h1, lad_few hr h2⟩, h3⟩
end Go.Proofs.Ytgapnhpmgidmhaa
