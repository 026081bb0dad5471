/- Tapes: sound, Valid, asked of the program. -/
import Derived.Test.YthpbkbbmedpecaaDoorTape0
import Derived.Test.YthpbkbbmedpecaaDoorNetT
import Derived.Test.YthpbkbbmedpecaaDoorArr6
set_option linter.unusedSimpArgs false
set_option linter.unusedVariables false
namespace Go.Proofs.YthpbkbbmedpecaaDoor
open Go.RowKit
attribute [local go_sem] Later.cell

def vT (n : Int) (t : Tp) : Bool := decide (0 ≤ t.1) && (decide (t.1 < t.2.1) && (decide (t.2.1 < n) && withinB t.2.2 1 60))
def vNet (n : Int) (l : List Tp) : Bool := withinB n 1 6 && (decide (l.length ≤ 10) && l.all (vT n))
theorem vT_ok {n : Int} {t : Tp} (hn : n ≤ 6) (h : vT n t = true) : okT t := by
  simp only [vT, Bool.and_eq_true, decide_eq_true_eq] at h
  obtain ⟨h1, h2, h3, h4⟩ := h
  have h5 := withinB_iff.1 h4
  exact ⟨⟨h1, by omega⟩, ⟨by omega, by omega⟩, h2, h5.1, h5.2⟩
theorem vNet_spec {n : Int} {l : List Tp} (h : vNet n l = true) : (1 ≤ n ∧ n ≤ 6) ∧ l.length ≤ 10 ∧ okL l := by
  simp only [vNet, Bool.and_eq_true, decide_eq_true_eq, List.all_eq_true] at h
  have h1 := withinB_iff.1 h.1
  exact ⟨h1, h.2.1, fun t ht => vT_ok h1.2 (h.2.2 t ht)⟩
abbrev tapeV (t : Tp) : Value := .agg #[.int .i64 t.1, .int .i64 t.2.1, .int .i64 t.2.2]

set_option maxHeartbeats 1000000 in
theorem sound_any (n a b o : Int) (w : World) :
    Calls Tryd.prog 38 #[.int .i64 n, .agg #[.int .i64 a, .int .i64 b, .int .i64 o]] w fun e w' => e = .returned (.bool (vT n (a, b, o))) ∧ Below w.heap.size w w' := by
  have hv : vT n (a, b, o) = (decide (0 ≤ a) && (decide (a < b) && (decide (b < n) && withinB o 1 60))) := rfl
  generalize vT n (a, b, o) = V at *
  by_cases h1 : 0 ≤ a
  · by_cases h2 : a < b
    · by_cases h3 : b < n
      · have hf : Hid (V = withinB o 1 60) := Lib.hid (by rw [hv, decide_eq_true h1, decide_eq_true h2, decide_eq_true h3]; rfl)
        clear hv
        go_enter Tryd.func38, Tryd.ntmps38
        go_wp2_with (go_at_call 35; refine (twithin_any _ _ _ _).mono ?_; rintro e w' ⟨rfl, rfl⟩)
        go_ret
        exact ⟨ret_bool hf.out.symm, (by repeat (first | exact Below.refl _ _ | assumption | refine Below.setCell ?_ (by first | (simp; done) | (simp; omega) | omega) _ | refine Below.drew ?_ | refine below_drewN ?_ _ | refine Below.alloc ?_ (by first | (simp; done) | (simp; omega) | omega) _ | refine below_alloc ?_ _ | refine below_step ?_ (by assumption)))⟩
      · have hf : Hid (V = false) := Lib.hid (by rw [hv, decide_eq_false h3]; simp)
        have h3' : decide (b < n) = false := decide_eq_false h3
        clear hv
        go_enter Tryd.func38, Tryd.ntmps38
        go_wp2
        go_ret
        exact ⟨ret_bool hf.out.symm, (by repeat (first | exact Below.refl _ _ | assumption | refine Below.setCell ?_ (by first | (simp; done) | (simp; omega) | omega) _ | refine Below.drew ?_ | refine below_drewN ?_ _ | refine Below.alloc ?_ (by first | (simp; done) | (simp; omega) | omega) _ | refine below_alloc ?_ _ | refine below_step ?_ (by assumption)))⟩
    · have hf : Hid (V = false) := Lib.hid (by rw [hv, decide_eq_false h2]; simp)
      have h2' : decide (a < b) = false := decide_eq_false h2
      clear hv
      go_enter Tryd.func38, Tryd.ntmps38
      go_wp2
      go_ret
      exact ⟨ret_bool hf.out.symm, (by repeat (first | exact Below.refl _ _ | assumption | refine Below.setCell ?_ (by first | (simp; done) | (simp; omega) | omega) _ | refine Below.drew ?_ | refine below_drewN ?_ _ | refine Below.alloc ?_ (by first | (simp; done) | (simp; omega) | omega) _ | refine below_alloc ?_ _ | refine below_step ?_ (by assumption)))⟩
  · have hf : Hid (V = false) := Lib.hid (by rw [hv, decide_eq_false h1]; rfl)
    have h1' : decide (0 ≤ a) = false := decide_eq_false h1
    clear hv
    go_enter Tryd.func38, Tryd.ntmps38
    go_wp2
    go_ret
    exact ⟨ret_bool hf.out.symm, (by repeat (first | exact Below.refl _ _ | assumption | refine Below.setCell ?_ (by first | (simp; done) | (simp; omega) | omega) _ | refine Below.drew ?_ | refine below_drewN ?_ _ | refine Below.alloc ?_ (by first | (simp; done) | (simp; omega) | omega) _ | refine below_alloc ?_ _ | refine below_step ?_ (by assumption)))⟩
set_option maxHeartbeats 1000000 in
theorem Valid1_any (n a b o : Int) (B : Nat) (w : World) (hc : w.cell? ⟨B, 0, none⟩ = some (.int .i64 n)) :
    Calls Tryd.prog 37 #[.agg #[.int .i64 a, .int .i64 b, .int .i64 o], .pointer (some ⟨B, 0, none⟩)] w fun e w' => e = .returned (.bool (!vT n (a, b, o))) ∧ Below w.heap.size w w' := by
  have hB := World.block_lt_of_cell? w _ hc
  have c1 := fun W => sound_any n a b o W
  generalize vT n (a, b, o) = V at *
  have C1 := Lib.hid c1
  clear c1
  have hn : ¬ w.heap.size = B := by simp at hB; omega
  have hn2 : ¬ B = w.heap.size := by simp at hB; omega
  go_enter Tryd.func37, Tryd.ntmps37
  go_wp2_with fail
  refine (C1.out _).mono ?_
  rintro e w1 ⟨rfl, hb⟩
  have hB_w1 : Below w.heap.size w w1 := (by repeat (first | exact Below.refl _ _ | assumption | refine Below.setCell ?_ (by first | (simp; done) | (simp; omega) | omega) _ | refine Below.drew ?_ | refine below_drewN ?_ _ | refine Below.alloc ?_ (by first | (simp; done) | (simp; omega) | omega) _ | refine below_alloc ?_ _ | refine below_step ?_ (by assumption))); have hz_w1 := hB_w1.size; clear hb
  go_wp2
  go_ret
  exact ⟨rfl, (by repeat (first | exact Below.refl _ _ | assumption | refine Below.setCell ?_ (by first | (simp; done) | (simp; omega) | omega) _ | refine Below.drew ?_ | refine below_drewN ?_ _ | refine Below.alloc ?_ (by first | (simp; done) | (simp; omega) | omega) _ | refine below_alloc ?_ _ | refine below_step ?_ (by assumption)))⟩
def badI (n : Int) (l : List Tp) : Int := match l.findIdx? (fun t => !vT n t) with | some i => i | none => -1
theorem badI_some {n : Int} {l : List Tp} {k : Nat} (hk : k < l.length) (h1 : (l.take k).all (vT n) = true) (h2 : vT n (tpA l k) = false) : badI n l = k := by
  have hg : tpA l k = l[k] := by unfold tpA; rw [List.getElem?_eq_getElem hk]; rfl
  have : l.findIdx? (fun t => !vT n t) = some k := by
    rw [List.findIdx?_eq_some_iff_getElem]
    refine ⟨hk, by rw [← hg, h2]; rfl, fun j hj => ?_⟩
    rw [List.all_eq_true] at h1
    have := h1 (l[j]'(by omega)) (List.mem_take_iff_getElem.2 ⟨j, by omega, rfl⟩)
    simp [this]
  unfold badI; rw [this]
theorem badI_none {n : Int} {l : List Tp} (h : l.all (vT n) = true) : badI n l = -1 := by
  have : l.findIdx? (fun t => !vT n t) = none := by
    rw [List.findIdx?_eq_none_iff]
    rw [List.all_eq_true] at h
    intro x hx; simp [h x hx]
  unfold badI; rw [this]
theorem badI_ge {n : Int} {l : List Tp} : decide (0 ≤ badI n l) = !l.all (vT n) := by
  unfold badI
  cases h : l.findIdx? (fun t => !vT n t) with
  | none =>
    rw [List.findIdx?_eq_none_iff] at h
    have : l.all (vT n) = true := List.all_eq_true.2 fun x hx => by simpa using h x hx
    rw [this]; rfl
  | some i =>
    rw [List.findIdx?_eq_some_iff_getElem] at h
    obtain ⟨hi, h1, _⟩ := h
    have : l.all (vT n) = false := List.all_eq_false.2 ⟨l[i], List.getElem_mem hi, by simpa using h1⟩
    rw [this]; simp
theorem rows_tp {w : World} {B : Nat} {A : Option Addr} {len : Nat} {xs : List Tp} (h : Rows 3 int3 (0,0,0) w B A len xs) (k : Nat) (hk : k < len) :
    ∃ b off, A = some ⟨b, off, none⟩ ∧ b < B ∧ w.cell? ⟨b, off + k * 3, none⟩ = some (.int .i64 (tpA xs k).1) ∧ w.cell? ⟨b, off + k * 3 + 1, none⟩ = some (.int .i64 (tpA xs k).2.1) ∧ w.cell? ⟨b, off + k * 3 + 2, none⟩ = some (.int .i64 (tpA xs k).2.2) := h.at3 k hk
theorem all_take_snoc {l : List Tp} {p : Tp → Bool} {k : Nat} (hk : k < l.length) (h : (l.take k).all p = true) (h2 : p (tpA l k) = true) : (l.take (k + 1)).all p = true := by
  rw [take_snoc hk, List.all_append, h]; simp [h2]

set_option maxRecDepth 20000 in
set_option maxHeartbeats 2000000 in
theorem IndexF_any (n : Int) (A : Option Addr) (len cap : Nat) (l : List Tp) (B : Nat) (w : World) (hm : len ≤ 9223372036854775807) (hx : Rows 3 int3 (0,0,0) w w.heap.size A len l) (hc : w.cell? ⟨B, 0, none⟩ = some (.int .i64 n)) :
    Calls Tryd.prog 60 #[.slice A len cap, .func (.func 37) #[] #[.pointer (some ⟨B, 0, none⟩)]] w fun e w' => e = .returned (.int .i64 (badI n l)) ∧ Below w.heap.size w w' := by
  have hB := World.block_lt_of_cell? w _ hc
  have hB' : B < w.heap.size := hB
  have c1 := fun a b o W (h : Below w.heap.size w W) => Valid1_any n a b o B W ((h.cell (p := ⟨B, 0, none⟩) hB').trans hc)
  have C1 := Lib.hid c1
  have HX := Lib.hid hx
  clear c1 hx hc hB
  go_enter Tryd.func60, Tryd.ntmps60
  go_wp2
  go_loopw [8] (fun i wr => ∃ k : Nat, k ≤ len ∧ i = .int .i64 k ∧ Hid ((l.take k).all (vT n) = true) ∧ Below w.heap.size w wr) (fun i _ => len - (intOf i).toNat)
  case atStart => exact ⟨0, Nat.zero_le _, rfl, Lib.hid rfl, Below.refl _ _⟩
  case round =>
    obtain ⟨k, hk, rfl, hT, hb⟩ := hrel
    by_cases hlt : k < len
    · obtain ⟨b, off, rfl, hb0, hc1, hc2, hc3⟩ := rows_tp (HX.out.below hb) k hlt
      have HY := Lib.hid (fun h2 => all_take_snoc (l := l) (k := k) (by rw [HX.out.1]; exact hlt) hT.out h2)
      have HN := Lib.hid (fun h2 => badI_some (l := l) (k := k) (by rw [HX.out.1]; exact hlt) hT.out h2)
      have c2 := fun W h => C1.out (tpA l k).1 (tpA l k).2.1 (tpA l k).2.2 W h
      change ∀ W (h : Below w.heap.size w W), Calls _ _ _ _ (fun e w' => e = .returned (.bool (!vT n (tpA l k))) ∧ _) at c2
      have hk1 : (k : Int) < len := by omega
      cases hv : vT n (tpA l k)
      · have h4 := Lib.hid (HN.out hv)
        rw [hv] at c2
        have C2 := Lib.hid c2
        generalize tpA l k = T at *
        clear c2 hv
        go_wp2_with fail
        refine (C2.out _ hb).mono ?_
        rintro e w1 ⟨rfl, hb1⟩
        go_wp2
        go_ret
        exact ⟨ret_int h4.out.symm, below_step hb hb1⟩
      · have h4 := Lib.hid (HY.out hv)
        rw [hv] at c2
        have C2 := Lib.hid c2
        generalize tpA l k = T at *
        clear c2 hv
        go_wp2_with fail
        refine (C2.out _ hb).mono ?_
        rintro e w1 ⟨rfl, hb1⟩
        go_wp2
        go_roundw
        case rel => exact ⟨k + 1, by omega, by go_num, h4, below_step hb hb1⟩
        case measure => simp [intOf]; omega
    · have hfin : Hid (badI n l = -1) := Lib.hid (badI_none (by have := hT.out; rwa [List.take_of_length_le (by rw [HX.out.1]; omega)] at this))
      go_wp2
      go_ret
      exact ⟨ret_int hfin.out.symm, hb⟩
set_option maxHeartbeats 1000000 in
theorem ContF_any (n : Int) (A : Option Addr) (len cap : Nat) (l : List Tp) (B : Nat) (w : World) (hm : len ≤ 9223372036854775807) (hx : Rows 3 int3 (0,0,0) w w.heap.size A len l) (hc : w.cell? ⟨B, 0, none⟩ = some (.int .i64 n)) :
    Calls Tryd.prog 36 #[.slice A len cap, .func (.func 37) #[] #[.pointer (some ⟨B, 0, none⟩)]] w fun e w' => e = .returned (.bool (!l.all (vT n))) ∧ Below w.heap.size w w' := by
  have c1 := IndexF_any n A len cap l B w hm hx hc
  have hg := badI_ge (n := n) (l := l)
  generalize badI n l = I at *
  have C1 := Lib.hid c1
  have HG := Lib.hid hg
  clear c1 hx hc hg
  go_enter Tryd.func36, Tryd.ntmps36
  go_wp2_with fail
  refine C1.out.mono ?_
  rintro e w1 ⟨rfl, hb⟩
  go_wp2
  go_ret
  exact ⟨ret_bool HG.out, hb⟩
set_option maxHeartbeats 2000000 in
theorem Valid_any (n : Int) (A : Option Addr) (len cap : Nat) (l : List Tp) (w : World) (hm : len ≤ 9223372036854775807) (hx : Rows 3 int3 (0,0,0) w w.heap.size A len l) :
    Calls Tryd.prog 19 #[.int .i64 n, .slice A len cap] w fun e w' => e = .returned (.bool (vNet n l)) ∧ Below w.heap.size w w' := by
  have hv : vNet n l = (withinB n 1 6 && (decide (l.length ≤ 10) && l.all (vT n))) := rfl
  rw [hx.1] at hv
  have c2 := fun W (h : Below w.heap.size w W) B hc => ContF_any n A len cap l B W hm ((hx.below h).more h.size) hc
  have c1 := fun W => twithin_any n 1 6 W
  generalize vNet n l = V at *
  cases h1 : withinB n 1 6
  · rw [h1] at c1 hv
    have hf : Hid (V = false) := Lib.hid hv
    have C1 := Lib.hid c1
    clear c1 c2 hv hx h1
    go_enter Tryd.func19, Tryd.ntmps19
    go_wp2_with (go_at_call 35; refine (C1.out _).mono ?_; rintro e w' ⟨rfl, rfl⟩)
    go_ret
    exact ⟨ret_bool hf.out.symm, (by repeat (first | exact Below.refl _ _ | assumption | refine Below.setCell ?_ (by first | (simp; done) | (simp; omega) | omega) _ | refine Below.drew ?_ | refine below_drewN ?_ _ | refine Below.alloc ?_ (by first | (simp; done) | (simp; omega) | omega) _ | refine below_alloc ?_ _ | refine below_step ?_ (by assumption)))⟩
  · rw [h1] at c1 hv
    rw [Bool.true_and] at hv
    by_cases h2 : len ≤ 10
    · rw [decide_eq_true h2, Bool.true_and] at hv
      generalize l.all (vT n) = U at *
      subst hv
      have C1 := Lib.hid c1
      have C2 := Lib.hid c2
      have h2' : (len : Int) ≤ 10 := by omega
      clear c1 c2 hx h1
      go_enter Tryd.func19, Tryd.ntmps19
      go_wp2_with (go_at_call 35; refine (C1.out _).mono ?_; rintro e w' ⟨rfl, rfl⟩)
      refine (C2.out _ (by repeat (first | exact Below.refl _ _ | assumption | refine Below.setCell ?_ (by first | (simp; done) | (simp; omega) | omega) _ | refine Below.drew ?_ | refine below_drewN ?_ _ | refine Below.alloc ?_ (by first | (simp; done) | (simp; omega) | omega) _ | refine below_alloc ?_ _ | refine below_step ?_ (by assumption))) w.heap.size (by go_simp)).mono ?_
      rintro e w1 ⟨rfl, hb⟩
      have hB_w1 : Below w.heap.size w w1 := (by repeat (first | exact Below.refl _ _ | assumption | refine Below.setCell ?_ (by first | (simp; done) | (simp; omega) | omega) _ | refine Below.drew ?_ | refine below_drewN ?_ _ | refine Below.alloc ?_ (by first | (simp; done) | (simp; omega) | omega) _ | refine below_alloc ?_ _ | refine below_step ?_ (by assumption))); have hz_w1 := hB_w1.size; clear hb
      go_wp2
      go_ret
      exact ⟨ret_bool (by simp), (by repeat (first | exact Below.refl _ _ | assumption | refine Below.setCell ?_ (by first | (simp; done) | (simp; omega) | omega) _ | refine Below.drew ?_ | refine below_drewN ?_ _ | refine Below.alloc ?_ (by first | (simp; done) | (simp; omega) | omega) _ | refine below_alloc ?_ _ | refine below_step ?_ (by assumption)))⟩
    · rw [decide_eq_false h2, Bool.false_and] at hv
      have hf : Hid (V = false) := Lib.hid hv
      have C1 := Lib.hid c1
      have h2' : decide ((len : Int) ≤ 10) = false := decide_eq_false (by omega)
      clear c1 c2 hv hx h1
      go_enter Tryd.func19, Tryd.ntmps19
      go_wp2_with (go_at_call 35; refine (C1.out _).mono ?_; rintro e w' ⟨rfl, rfl⟩)
      go_ret
      exact ⟨ret_bool hf.out.symm, (by repeat (first | exact Below.refl _ _ | assumption | refine Below.setCell ?_ (by first | (simp; done) | (simp; omega) | omega) _ | refine Below.drew ?_ | refine below_drewN ?_ _ | refine Below.alloc ?_ (by first | (simp; done) | (simp; omega) | omega) _ | refine below_alloc ?_ _ | refine below_step ?_ (by assumption)))⟩
def allW (n : Int) (ks : List Int) : Bool := ks.all fun k => withinB k 0 (n - 1)
def askE (n : Int) (l : List Tp) (ks : List Int) : Int := if vNet n l then (if allW n ks then 0 else 7) else 1
set_option maxHeartbeats 2000000 in
theorem asked_any (n : Int) (A : Option Addr) (len cap : Nat) (l : List Tp) (A' : Option Addr) (m cap' : Nat) (ks : List Int) (w : World) (hm : len ≤ 9223372036854775807) (hm' : m ≤ 9223372036854775807) (hx : Rows 3 int3 (0,0,0) w w.heap.size A len l) (hy : Ints w w.heap.size A' m ks) :
    Calls Tryd.prog 27 #[.int .i64 n, .slice A len cap, .slice A' m cap'] w fun e w' => e = .returned (.int .i64 (askE n l ks)) ∧ Below w.heap.size w w' := by
  have hE : askE n l ks = if vNet n l then (if allW n ks then 0 else 7) else 1 := rfl
  have c1 := Valid_any n A len cap l w hm hx
  cases hv : vNet n l
  · rw [hv] at c1 hE
    change askE n l ks = 1 at hE
    rw [hE]
    have C1 := Lib.hid c1
    clear c1 hx hy hE hv
    go_enter Tryd.func27, Tryd.ntmps27
    go_wp2_with fail
    refine C1.out.mono ?_
    rintro e w1 ⟨rfl, hb⟩
    go_wp2
    go_ret
    exact ⟨rfl, hb⟩
  · have hn := (vNet_spec hv).1
    rw [hv, if_pos rfl] at hE
    rw [hv] at c1
    have C1 := Lib.hid c1
    have HE := Lib.hid hE
    have HY := Lib.hid hy
    clear c1 hx hy hE hv
    have hwn : IntKind.i64.wrap (n - 1) = n - 1 := IntWalk.i64_in _ (by omega)
    go_enter Tryd.func27, Tryd.ntmps27
    go_wp2_with fail
    refine C1.out.mono ?_
    rintro e w1 ⟨rfl, hb1⟩
    go_wp2
    go_loop [15] (fun i => ∃ k : Nat, k ≤ m ∧ i = .int .i64 k ∧ Hid ((ks.take k).all (fun k => withinB k 0 (n - 1)) = true)) (fun i => m - (intOf i).toNat)
    case atStart => exact ⟨0, Nat.zero_le _, rfl, Lib.hid rfl⟩
    case round =>
      obtain ⟨k, hk, rfl, hT⟩ := hrel
      by_cases hlt : k < m
      · obtain ⟨b, off, rfl, hb0, hc1⟩ := (HY.out.below hb1).at_ k hlt
        have hkl : k < ks.length := by rw [HY.out.1]; exact hlt
        have HA := Lib.hid (fun hp => all_of_drop (d := 0) (p := fun k => withinB k 0 (n - 1)) hkl hp hT.out)
        have HF := Lib.hid (fun hp => all_false_of (d := 0) (p := fun k => withinB k 0 (n - 1)) hkl hp)
        generalize ks[k]?.getD 0 = X at *
        cases hw : withinB X 0 (n - 1)
        · have h4 : Hid (askE n l ks = 7) := Lib.hid (by rw [HE.out]; unfold allW; rw [HF.out hw]; rfl)
          go_wp2_with (go_at_call 35; refine (twithin_any _ _ _ _).mono ?_; rintro e w' ⟨rfl, rfl⟩)
          go_ret
          exact ⟨ret_int h4.out.symm, hb1⟩
        · have h4 := Lib.hid (HA.out hw)
          go_wp2_with (go_at_call 35; refine (twithin_any _ _ _ _).mono ?_; rintro e w' ⟨rfl, rfl⟩)
          go_round
          case rel => exact ⟨k + 1, by omega, by go_num, h4⟩
          case measure => simp [intOf]; omega
      · have h4 : Hid (askE n l ks = 0) := Lib.hid (by
          have := hT.out
          rw [List.take_of_length_le (by rw [HY.out.1]; omega)] at this
          rw [HE.out]; unfold allW; rw [this]; rfl)
        go_wp2
        go_ret
        exact ⟨ret_int h4.out.symm, hb1⟩
end Go.Proofs.YthpbkbbmedpecaaDoor
