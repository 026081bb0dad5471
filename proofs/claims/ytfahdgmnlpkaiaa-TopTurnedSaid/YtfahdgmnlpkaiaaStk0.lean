/- Stacks: sound, Valid, asked, windy. -/
import Derived.Test.YtfahdgmnlpkaiaaTurn0
set_option linter.unusedSimpArgs false
set_option linter.unusedVariables false
namespace Go.Proofs.Ytfahdgmnlpkaiaa
open Go.RowKit
attribute [local go_sem] Later.cell

structure Cs where
  h : Int
  o : Int
  i : Int
  g : Int
  e : Int
  n : Int
def c6V (c : Cs) : List Value := [.int .i64 c.h, .int .i64 c.o, .int .i64 c.i, .int .i64 c.g, .int .i64 c.e, .int .i64 c.n]
abbrev csV (c : Cs) : Value := .agg #[.int .i64 c.h, .int .i64 c.o, .int .i64 c.i, .int .i64 c.g, .int .i64 c.e, .int .i64 c.n]
def dC : Cs := ⟨0, 0, 0, 0, 0, 0⟩
def csA (l : List Cs) (k : Nat) : Cs := l[k]?.getD dC
def sndC (c : Cs) : Bool := withinB c.h 1 2000 && (decide (0 ≤ c.i) && (decide (c.i < c.o) && (decide (c.o ≤ 5000) && (withinB c.g 1 1000000 && (withinB c.e (-5000) 5000 && withinB c.n (-5000) 5000)))))
def vS (l : List Cs) : Bool := withinB l.length 1 60 && l.all sndC
def askS (l : List Cs) (bed : Int) : Int := if vS l then (if withinB bed 0 (l.length - 1) then 0 else 7) else 1
def winE (l : List Cs) (bed p side : Int) : Int := if askS l bed = 0 then (if withinB p 0 10000 && withinB side 0 3 then 0 else 7) else askS l bed
/-- The six cells of a course. -/
def CAt (w : World) (b o : Nat) (c : Cs) : Prop := w.cell? ⟨b, o, none⟩ = some (.int .i64 c.h) ∧ w.cell? ⟨b, o + 1, none⟩ = some (.int .i64 c.o) ∧ w.cell? ⟨b, o + 2, none⟩ = some (.int .i64 c.i) ∧ w.cell? ⟨b, o + 3, none⟩ = some (.int .i64 c.g) ∧ w.cell? ⟨b, o + 4, none⟩ = some (.int .i64 c.e) ∧ w.cell? ⟨b, o + 5, none⟩ = some (.int .i64 c.n)
theorem CAt.block {w w' : World} {b o : Nat} {c : Cs} (h : CAt w b o c) (e : w'.heap[b]? = w.heap[b]?) : CAt w' b o c := by
  obtain ⟨h0, h1, h2, h3, h4, h5⟩ := h
  exact ⟨(World.cell?_of_block (a := ⟨b, _, none⟩) e).trans h0, (World.cell?_of_block (a := ⟨b, _, none⟩) e).trans h1, (World.cell?_of_block (a := ⟨b, _, none⟩) e).trans h2, (World.cell?_of_block (a := ⟨b, _, none⟩) e).trans h3, (World.cell?_of_block (a := ⟨b, _, none⟩) e).trans h4, (World.cell?_of_block (a := ⟨b, _, none⟩) e).trans h5⟩
theorem cAt_box (w : World) (c : Cs) (t : TypeId) : CAt (w.alloc (.cells #[.int .i64 c.h, .int .i64 c.o, .int .i64 c.i, .int .i64 c.g, .int .i64 c.e, .int .i64 c.n] t)) w.heap.size 0 c := ⟨by go_simp, by go_simp, by go_simp, by go_simp, by go_simp, by go_simp⟩
theorem rows_cs {w : World} {B : Nat} {A : Option Addr} {len : Nat} {xs : List Cs} (h : Rows 6 c6V dC w B A len xs) (k : Nat) (hk : k < len) : ∃ b off, A = some ⟨b, off, none⟩ ∧ b < B ∧ CAt w b (off + k * 6) (csA xs k) := by
  obtain ⟨b, off, h1, h2, h3⟩ := h.at_ k hk
  exact ⟨b, off, h1, h2, h3 0 _ rfl, h3 1 _ rfl, h3 2 _ rfl, h3 3 _ rfl, h3 4 _ rfl, h3 5 _ rfl⟩
set_option maxHeartbeats 2000000 in
theorem csound_any (c : Cs) (w : World) :
    Calls Try.prog 31 #[csV c] w fun x w' => x = .returned (.bool (sndC c)) ∧ Below w.heap.size w w' := by
  have c1 := fun W => swithin_any c.h 1 2000 W
  have c2 := fun W => swithin_any c.g 1 1000000 W
  have c3 := fun W => swithin_any c.e (-5000) 5000 W
  have c4 := fun W => swithin_any c.n (-5000) 5000 W
  have hv : sndC c = (withinB c.h 1 2000 && (decide (0 ≤ c.i) && (decide (c.i < c.o) && (decide (c.o ≤ 5000) && (withinB c.g 1 1000000 && (withinB c.e (-5000) 5000 && withinB c.n (-5000) 5000)))))) := rfl
  generalize sndC c = V at *
  generalize withinB c.h 1 2000 = V1 at *
  generalize withinB c.g 1 1000000 = V2 at *
  generalize withinB c.e (-5000) 5000 = V3 at *
  generalize withinB c.n (-5000) 5000 = V4 at *
  have hq := cAt_box w c 61
  have hB : Below w.heap.size w (w.alloc (.cells #[.int .i64 c.h, .int .i64 c.o, .int .i64 c.i, .int .i64 c.g, .int .i64 c.e, .int .i64 c.n] 61)) := (Below.refl _ _).alloc (Nat.le_refl _) _
  obtain ⟨W0, hW0⟩ : ∃ W0, W0 = w.alloc (.cells #[.int .i64 c.h, .int .i64 c.o, .int .i64 c.i, .int .i64 c.g, .int .i64 c.e, .int .i64 c.n] 61) := ⟨_, rfl⟩
  rw [← hW0] at hq hB
  obtain ⟨q0, q1, q2, q3, q4, q5⟩ := hq
  simp only [Nat.zero_add] at q1 q2 q3 q4 q5
  obtain ⟨h, o, i, g, e, n⟩ := c
  have C1 := Lib.hid c1
  have C2 := Lib.hid c2
  have C3 := Lib.hid c3
  have C4 := Lib.hid c4
  have HV := Lib.hid hv
  clear c1 c2 c3 c4 hv
  dsimp only at *
  go_enter Try.func31, Try.ntmps31
  go_wp2_with fail
  rw [← hW0]
  clear hW0
  refine (C1.out _).mono ?_
  rintro e' w' ⟨rfl, rfl⟩
  cases V1
  · have hf : Hid (V = false) := Lib.hid (by rw [HV.out]; rfl)
    clear HV
    go_wp2
    go_ret
    exact ⟨ret_bool hf.out.symm, hB⟩
  · by_cases h1 : 0 ≤ i
    · by_cases h2 : i < o
      · by_cases h3 : o ≤ 5000
        · have hf : Hid (V = (V2 && (V3 && V4))) := Lib.hid (by rw [HV.out, decide_eq_true h1, decide_eq_true h2, decide_eq_true h3]; rfl)
          clear HV
          go_wp2_with fail
          refine (C2.out _).mono ?_
          rintro e' w' ⟨rfl, rfl⟩
          cases V2
          · go_wp2
            go_ret
            exact ⟨ret_bool hf.out.symm, hB⟩
          · go_wp2_with fail
            refine (C3.out _).mono ?_
            rintro e' w' ⟨rfl, rfl⟩
            cases V3
            · go_wp2
              go_ret
              exact ⟨ret_bool hf.out.symm, hB⟩
            · go_wp2_with fail
              refine (C4.out _).mono ?_
              rintro e' w' ⟨rfl, rfl⟩
              cases V4
              · go_wp2
                go_ret
                exact ⟨ret_bool hf.out.symm, hB⟩
              · go_wp2
                go_ret
                exact ⟨ret_bool hf.out.symm, hB⟩
        · have hf : Hid (V = false) := Lib.hid (by rw [HV.out, decide_eq_false h3]; simp)
          have h3' : decide (o ≤ 5000) = false := decide_eq_false h3
          clear HV
          go_wp2
          go_ret
          exact ⟨ret_bool hf.out.symm, hB⟩
      · have hf : Hid (V = false) := Lib.hid (by rw [HV.out, decide_eq_false h2]; simp)
        have h2' : decide (i < o) = false := decide_eq_false h2
        clear HV
        go_wp2
        go_ret
        exact ⟨ret_bool hf.out.symm, hB⟩
    · have hf : Hid (V = false) := Lib.hid (by rw [HV.out, decide_eq_false h1]; simp)
      have h1' : decide (0 ≤ i) = false := decide_eq_false h1
      clear HV
      go_wp2
      go_ret
      exact ⟨ret_bool hf.out.symm, hB⟩
set_option maxHeartbeats 1000000 in
theorem cValid1_any (c : Cs) (w : World) :
    Calls Try.prog 30 #[csV c] w fun e w' => e = .returned (.bool (!sndC c)) ∧ Below w.heap.size w w' := by
  have c1 := fun W => csound_any c W
  generalize sndC c = V at *
  have C1 := Lib.hid c1
  clear c1
  go_enter Try.func30, Try.ntmps30
  go_wp2_with fail
  refine (C1.out _).mono ?_
  rintro e w1 ⟨rfl, hb⟩
  have hB : Below w.heap.size w w1 := ((Below.refl _ w).alloc (Nat.le_refl _) _).trans (hb.mono (by simp))
  go_wp2
  go_ret
  exact ⟨rfl, hB⟩
def badC (l : List Cs) : Int := match l.findIdx? (fun t => !sndC t) with | some i => i | none => -1
theorem csA_get {l : List Cs} {k : Nat} (hk : k < l.length) : csA l k = l[k] := by unfold csA; rw [List.getElem?_eq_getElem hk]; rfl
theorem badC_some {l : List Cs} {k : Nat} (hk : k < l.length) (h1 : (l.take k).all sndC = true) (h2 : sndC (csA l k) = false) : badC l = k := by
  have hg := csA_get hk
  have : l.findIdx? (fun t => !sndC t) = some k := by
    rw [List.findIdx?_eq_some_iff_getElem]
    refine ⟨hk, by rw [← hg, h2]; rfl, fun j hj => ?_⟩
    rw [List.all_eq_true] at h1
    have := h1 (l[j]'(by omega)) (List.mem_take_iff_getElem.2 ⟨j, by omega, rfl⟩)
    simp [this]
  unfold badC; rw [this]
theorem badC_none {l : List Cs} (h : l.all sndC = true) : badC l = -1 := by
  have : l.findIdx? (fun t => !sndC t) = none := by
    rw [List.findIdx?_eq_none_iff]
    rw [List.all_eq_true] at h
    intro x hx; simp [h x hx]
  unfold badC; rw [this]
theorem badC_ge {l : List Cs} : decide (0 ≤ badC l) = !l.all sndC := by
  unfold badC
  cases h : l.findIdx? (fun t => !sndC t) with
  | none =>
    rw [List.findIdx?_eq_none_iff] at h
    have : l.all sndC = true := List.all_eq_true.2 fun x hx => by simpa using h x hx
    rw [this]; rfl
  | some i =>
    rw [List.findIdx?_eq_some_iff_getElem] at h
    obtain ⟨hi, h1, _⟩ := h
    have : l.all sndC = false := List.all_eq_false.2 ⟨l[i], List.getElem_mem hi, by simpa using h1⟩
    rw [this]; simp
theorem csA_snoc {l : List Cs} {p : Cs → Bool} {k : Nat} (hk : k < l.length) (h : (l.take k).all p = true) (h2 : p (csA l k) = true) : (l.take (k + 1)).all p = true := by
  rw [List.take_succ_eq_append_getElem hk, List.all_append, h, ← csA_get hk]; simp [h2]
set_option maxRecDepth 20000 in
set_option maxHeartbeats 2000000 in
theorem cIndexF_any (A : Option Addr) (len cap : Nat) (l : List Cs) (w : World) (hm : len ≤ 9223372036854775807) (hx : Rows 6 c6V dC w w.heap.size A len l) :
    Calls Try.prog 39 #[.slice A len cap, .func (.func 30) #[] #[]] w fun e w' => e = .returned (.int .i64 (badC l)) ∧ Below w.heap.size w w' := by
  have HX := Lib.hid hx
  clear hx
  go_enter Try.func39, Try.ntmps39
  go_wp2
  go_loopw [8] (fun i wr => ∃ k : Nat, k ≤ len ∧ i = .int .i64 k ∧ Hid ((l.take k).all sndC = true) ∧ Below w.heap.size w wr) (fun i _ => len - (intOf i).toNat)
  case atStart => exact ⟨0, Nat.zero_le _, rfl, Lib.hid rfl, Below.refl _ _⟩
  case round =>
    obtain ⟨k, hk, rfl, hT, hb⟩ := hrel
    by_cases hlt : k < len
    · obtain ⟨b, off, rfl, hb0, hc0, hc1, hc2, hc3, hc4, hc5⟩ := rows_cs (HX.out.below hb) k hlt
      have HY := Lib.hid (fun h2 => csA_snoc (l := l) (k := k) (by rw [HX.out.1]; exact hlt) hT.out h2)
      have HN := Lib.hid (fun h2 => badC_some (l := l) (k := k) (by rw [HX.out.1]; exact hlt) hT.out h2)
      have c2 := fun W => cValid1_any (csA l k) W
      have hk1 : (k : Int) < len := by omega
      cases hv : sndC (csA l k)
      · have h4 := Lib.hid (HN.out hv)
        rw [hv] at c2
        have C2 := Lib.hid c2
        generalize csA l k = T at *
        clear c2 hv HY HN
        go_wp2_with fail
        refine (C2.out _).mono ?_
        rintro e w1 ⟨rfl, hb1⟩
        go_wp2
        go_ret
        exact ⟨ret_int h4.out.symm, below_step hb hb1⟩
      · have h4 := Lib.hid (HY.out hv)
        rw [hv] at c2
        have C2 := Lib.hid c2
        generalize csA l k = T at *
        clear c2 hv HY HN
        go_wp2_with fail
        refine (C2.out _).mono ?_
        rintro e w1 ⟨rfl, hb1⟩
        go_wp2
        go_roundw
        case rel => exact ⟨k + 1, by omega, by go_num, h4, below_step hb hb1⟩
        case measure => simp [intOf]; omega
    · have hfin : Hid (badC l = -1) := Lib.hid (badC_none (by have := hT.out; rwa [List.take_of_length_le (by rw [HX.out.1]; omega)] at this))
      go_wp2
      go_ret
      exact ⟨ret_int hfin.out.symm, hb⟩
set_option maxHeartbeats 1000000 in
theorem cContF_any (A : Option Addr) (len cap : Nat) (l : List Cs) (w : World) (hm : len ≤ 9223372036854775807) (hx : Rows 6 c6V dC w w.heap.size A len l) :
    Calls Try.prog 29 #[.slice A len cap, .func (.func 30) #[] #[]] w fun e w' => e = .returned (.bool (!l.all sndC)) ∧ Below w.heap.size w w' := by
  have c1 := cIndexF_any A len cap l w hm hx
  have hg := badC_ge (l := l)
  generalize badC l = I at *
  have C1 := Lib.hid c1
  have HG := Lib.hid hg
  clear c1 hx hg
  go_enter Try.func29, Try.ntmps29
  go_wp2_with fail
  refine C1.out.mono ?_
  rintro e w1 ⟨rfl, hb⟩
  go_wp2
  go_ret
  exact ⟨ret_bool HG.out, hb⟩
set_option maxHeartbeats 2000000 in
theorem cValid_any (A : Option Addr) (len cap : Nat) (l : List Cs) (w : World) (hm : len ≤ 9223372036854775807) (hx : Rows 6 c6V dC w w.heap.size A len l) :
    Calls Try.prog 20 #[.slice A len cap] w fun e w' => e = .returned (.bool (vS l)) ∧ Below w.heap.size w w' := by
  have hv : vS l = (withinB l.length 1 60 && l.all sndC) := rfl
  rw [hx.1] at hv
  have c2 := cContF_any A len cap l w hm hx
  have c1 := fun W => swithin_any len 1 60 W
  generalize vS l = V at *
  cases h1 : withinB len 1 60
  · rw [h1] at c1 hv
    have hf : Hid (V = false) := Lib.hid hv
    have C1 := Lib.hid c1
    clear c1 c2 hv hx h1
    go_enter Try.func20, Try.ntmps20
    go_wp2_with (go_at_call 27; refine (C1.out _).mono ?_; rintro e w' ⟨rfl, rfl⟩)
    go_ret
    exact ⟨ret_bool hf.out.symm, (by repeat (first | exact Below.refl _ _ | assumption | refine Below.setCell ?_ (by first | (simp; done) | (simp; omega) | omega) _ | refine Below.drew ?_ | refine below_drewN ?_ _ | refine Below.alloc ?_ (by first | (simp; done) | (simp; omega) | omega) _ | refine below_alloc ?_ _ | refine below_step ?_ (by assumption)))⟩
  · rw [h1] at c1 hv
    rw [Bool.true_and] at hv
    generalize l.all sndC = U at *
    subst hv
    have C1 := Lib.hid c1
    have C2 := Lib.hid c2
    clear c1 c2 hx h1
    go_enter Try.func20, Try.ntmps20
    go_wp2_with (go_at_call 27; refine (C1.out _).mono ?_; rintro e w' ⟨rfl, rfl⟩)
    refine C2.out.mono ?_
    rintro e w1 ⟨rfl, hb⟩
    go_wp2
    go_ret
    exact ⟨ret_bool (by simp), hb⟩
set_option maxHeartbeats 2000000 in
theorem casked_any (A : Option Addr) (len cap : Nat) (l : List Cs) (bed : Int) (w : World) (hm : len ≤ 9223372036854775807) (hx : Rows 6 c6V dC w w.heap.size A len l) :
    Calls Try.prog 26 #[.slice A len cap, .int .i64 bed] w fun e w' => e = .returned (.int .i64 (askS l bed)) ∧ Below w.heap.size w w' := by
  have hE : askS l bed = if vS l then (if withinB bed 0 (l.length - 1) then 0 else 7) else 1 := rfl
  rw [hx.1] at hE
  have c1 := cValid_any A len cap l w hm hx
  have c2 := fun W => swithin_any bed 0 ((len : Int) - 1) W
  generalize askS l bed = E at *
  generalize vS l = V at *
  generalize withinB bed 0 ((len : Int) - 1) = U at *
  subst hE
  have C1 := Lib.hid c1
  have C2 := Lib.hid c2
  clear c1 c2 hx
  cases V
  · go_enter Try.func26, Try.ntmps26
    go_wp2_with fail
    refine C1.out.mono ?_
    rintro e w1 ⟨rfl, hb⟩
    go_wp2
    go_ret
    exact ⟨rfl, hb⟩
  · go_enter Try.func26, Try.ntmps26
    go_wp2_with fail
    refine C1.out.mono ?_
    rintro e w1 ⟨rfl, hb⟩
    go_wp2_with fail
    refine (C2.out _).mono ?_
    rintro e w' ⟨rfl, rfl⟩
    cases U
    · go_wp2
      go_ret
      exact ⟨rfl, hb⟩
    · go_wp2
      go_ret
      exact ⟨rfl, hb⟩
set_option maxHeartbeats 2000000 in
theorem windy_any (A : Option Addr) (len cap : Nat) (l : List Cs) (bed p side : Int) (w : World) (hm : len ≤ 9223372036854775807) (hx : Rows 6 c6V dC w w.heap.size A len l) :
    Calls Try.prog 16 #[.slice A len cap, .int .i64 bed, .int .i64 p, .int .i64 side] w fun e w' => e = .returned (.int .i64 (winE l bed p side)) ∧ Below w.heap.size w w' := by
  have hE : winE l bed p side = if askS l bed = 0 then (if withinB p 0 10000 && withinB side 0 3 then 0 else 7) else askS l bed := rfl
  have c1 := casked_any A len cap l bed w hm hx
  have c2 := fun W => swithin_any p 0 10000 W
  have c3 := fun W => swithin_any side 0 3 W
  generalize winE l bed p side = E at *
  generalize askS l bed = V at *
  generalize withinB p 0 10000 = U at *
  generalize withinB side 0 3 = T at *
  have HE := Lib.hid hE
  have C1 := Lib.hid c1
  have C2 := Lib.hid c2
  have C3 := Lib.hid c3
  clear c1 c2 c3 hx hE
  by_cases hv : V = 0
  · subst hv
    go_enter Try.func16, Try.ntmps16
    go_wp2_with fail
    refine C1.out.mono ?_
    rintro e w1 ⟨rfl, hb⟩
    go_wp2_with fail
    refine (C2.out _).mono ?_
    rintro e w' ⟨rfl, rfl⟩
    cases U
    · have hf : Hid (E = 7) := Lib.hid (by rw [HE.out]; rfl)
      clear HE
      go_wp2
      go_ret
      exact ⟨ret_int hf.out.symm, hb⟩
    · go_wp2_with fail
      refine (C3.out _).mono ?_
      rintro e w' ⟨rfl, rfl⟩
      cases T
      · have hf : Hid (E = 7) := Lib.hid (by rw [HE.out]; rfl)
        clear HE
        go_wp2
        go_ret
        exact ⟨ret_int hf.out.symm, hb⟩
      · have hf : Hid (E = 0) := Lib.hid (by rw [HE.out]; rfl)
        clear HE
        go_wp2
        go_ret
        exact ⟨ret_int hf.out.symm, hb⟩
  · have hf : Hid (E = V) := Lib.hid (by rw [HE.out, if_neg hv])
    have hv2 : (V == 0) = false := by simpa using hv
    clear HE
    go_enter Try.func16, Try.ntmps16
    go_wp2_with fail
    refine C1.out.mono ?_
    rintro e w1 ⟨rfl, hb⟩
    go_wp2
    go_ret
    exact ⟨ret_int hf.out.symm, hb⟩
end Go.Proofs.Ytfahdgmnlpkaiaa
